/- A drawn region: two or three operations may come up next; each is walked. -/
import Derived.Test.YtpkcklpjbeginaaGreatDoorMix
namespace Go.Proofs.YtpkcklpjbeginaaGreatDoor

section
variable {P : Program} {ops : Array Oper} {Q : Exit → Act → World → Prop} {md : Region.Mode} {S : World → Prop} {tail : List Nat}

theorem wpOp_of_list {i : Nat} {oi : Oper} {a : Act} {w : World} {K : Act → World → Prop} (hi : ops[i]? = some oi)
    (H : wpList P ops (Exit.then K Q) [oi] a w) : wpOp P ops Q i K a w := by
  unfold wpList at H
  unfold wpOp
  simp only [hi]
  split
  · rename_i hw
    rw [if_pos hw] at H
    refine H.imp (fun H => ?_) (fun ⟨h1, h2⟩ => ⟨h1, ?_⟩)
    · unfold Oper.wp at H ⊢
      generalize (execOp a.eval oi).run P w = r at *
      cases r with
      | ok n w' =>
        cases n <;> simp only [Oper.upon, wpList, Exit.then] at H ⊢ <;> first
          | exact H
          | (refine Calls.mono H fun e w'' he => ?_
             cases e with
             | returned u => exact he
             | panicked c => exact he
             | outgrown => obtain ⟨a0, w0, hq⟩ := he; exact ⟨a0, w0, hq⟩)
      | halt x w' => cases x <;> simp only [Oper.upon, Exit.then] at H ⊢ <;> exact H
    · obtain ⟨a0, w0, hq⟩ := h2; exact ⟨a0, w0, hq⟩
  · rename_i hw
    rw [if_neg hw] at H
    exact H

/-- What is left to show of one operation that may come up. -/
def Pick (P : Program) (md : Region.Mode) (ops : Array Oper) (Q : Exit → Act → World → Prop) (S : World → Prop) (tail : List Nat) (fuel : Nat) (listed : Array Bool) (a : Act) (w : World) (i : Nat) (oi : Oper) : Prop :=
  Closed md ops (listed.setIfInBounds i true) → wpList P ops (Exit.then (fun a' w' => S w' ∧ wpAnyT P md ops Q S tail fuel (listed.setIfInBounds i true) a' w') Q) [oi] a w

theorem wpAnyT_pick2 {i j : Nat} {oi oj : Oper} {fuel : Nat} {listed : Array Bool} {a : Act} {w : World} (hcl : Closed md ops listed) (hi : ops[i]? = some oi) (hj : ops[j]? = some oj) (hr : Region.ready md ops listed = [i, j])
    (h1 : Pick P md ops Q S tail fuel listed a w i oi) (h2 : Pick P md ops Q S tail fuel listed a w j oj) : wpAnyT P md ops Q S tail (fuel + 1) listed a w := by
  refine ⟨fun h0 => (by rw [hr] at h0; cases h0), fun k hk => ?_⟩
  have hk' := hk
  rw [hr] at hk'
  simp only [List.mem_cons, List.not_mem_nil, or_false] at hk'
  have hcl' := hcl.set hk
  rcases hk' with e | e <;> subst e
  · exact wpOp_mono (fun a' w' h => ⟨fun _ => h.1, h.2⟩) (wpOp_of_list hi (h1 hcl'))
  · exact wpOp_mono (fun a' w' h => ⟨fun _ => h.1, h.2⟩) (wpOp_of_list hj (h2 hcl'))

end
end Go.Proofs.YtpkcklpjbeginaaGreatDoor
