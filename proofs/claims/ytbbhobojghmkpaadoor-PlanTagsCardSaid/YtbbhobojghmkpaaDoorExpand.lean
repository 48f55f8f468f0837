/- GrowR: A list of trees built by append, whose trees may share memory: they are read alone.
Exp: Repeats written out, in plain Lean: the expansion of a tree, and how many nodes it has.
ExpWalk: expand.expanded, repeat, Expand: the expansion of a right tree. (Printed by gen_expwalk.py.)
ExpRep: expand.repeat: a repeat written out. (Printed by gen_expwalk.py.)
Expand: expand.Expand: of any tree its expansion, or the error. -/
import Derived.Test.YtbbhobojghmkpaaDoorSeq
import Derived.Test.YtbbhobojghmkpaaDoorCheck
import Derived.Test.YtbbhobojghmkpaaDoorPo
import Derived.Deep.DeepCutAuto
import Derived.Test.YtbbhobojghmkpaaDoorPosDefs
set_option linter.unusedSimpArgs false
set_option linter.unusedVariables false
set_option linter.unnecessarySimpa false

/-! ## GrowR -/
namespace Go.Proofs.YtbbhobojghmkpaaDoor
open Go.RowKit

/-- The trees l lie in the cells xs; their lists lie in blocks that ok lets in. -/
def TL.Kids (w : World) (ok : Nat → Prop) : List T → List Value → Prop
  | [], xs => xs = []
  | t :: l, xs => ∃ B c r, xs = t.hd.cells (.slice B t.subs.length c) ++ r ∧ T.In w ok t B ∧ TL.Kids w ok l r
theorem TL.Kids.same {w w' : World} {ok ok' : Nat → Prop} (hs : Same ok w w') (hk : ∀ b, ok b → ok' b) : ∀ {l : List T} {xs : List Value}, TL.Kids w ok l xs → TL.Kids w' ok' l xs
  | [], _, h => h
  | _ :: _, _, ⟨B, c, r, h1, h2, h3⟩ => ⟨B, c, r, h1, T.In.same hs hk h2, TL.Kids.same hs hk h3⟩
theorem TL.Kids.snoc {w : World} {ok : Nat → Prop} {t : T} {B : Option Addr} {c : Nat} (ht : T.In w ok t B) : ∀ {l : List T} {xs : List Value}, TL.Kids w ok l xs → TL.Kids w ok (l ++ [t]) (xs ++ t.hd.cells (.slice B t.subs.length c))
  | [], _, h => by
    rw [show _ = _ from h]
    exact ⟨B, c, [], by simp, ht, rfl⟩
  | _ :: _, _, ⟨B', c', r, h1, h2, h3⟩ => ⟨B', c', r ++ t.hd.cells (.slice B t.subs.length c), by rw [h1, List.append_assoc], h2, TL.Kids.snoc ht h3⟩
theorem cells_len (h : Hd) (v : Value) : (h.cells v).length = 10 := rfl
theorem TL.Kids.at_ {w : World} {ok : Nat → Prop} : ∀ {l : List T} {xs : List Value}, TL.Kids w ok l xs → ∀ i t, l[i]? = some t → ∃ B c, (∀ j u, (t.hd.cells (.slice B t.subs.length c))[j]? = some u → xs[i * 10 + j]? = some u) ∧ T.In w ok t B
  | [], _, _, i, t, hi => by simp at hi
  | s :: l, _, ⟨B, c, r, h1, h2, h3⟩, 0, t, hi => by
    obtain rfl : s = t := by simpa using hi
    refine ⟨B, c, fun j u hu => ?_, h2⟩
    rw [h1, Nat.zero_mul, Nat.zero_add, List.getElem?_append_left (by have := (List.getElem?_eq_some_iff.1 hu).1; exact this)]
    exact hu
  | s :: l, _, ⟨B, c, r, h1, h2, h3⟩, i + 1, t, hi => by
    obtain ⟨B', c', k1, k2⟩ := TL.Kids.at_ h3 i t (by simpa using hi)
    refine ⟨B', c', fun j u hu => ?_, k2⟩
    rw [h1, List.getElem?_append_right (by rw [cells_len]; omega), cells_len, show (i + 1) * 10 + j - 10 = i * 10 + j by omega]
    exact k1 j u hu

/-- The value v is a list of the call's own that holds the trees l; their lists lie elsewhere, from base on. -/
def GrowR (base : Nat) (w : World) (v : Value) (l : List T) : Prop :=
  ∃ xs, w.ownsRow base 27 10 v l.length xs ∧ TL.Kids w (fun b => base ≤ b ∧ b < w.heap.size ∧ some b ≠ v.ownBlock) l xs
theorem GrowR.nil (base : Nat) (w : World) : GrowR base w (.slice none 0 0) [] := ⟨[], World.ownsRow_nil _ _ _ _, rfl⟩
theorem GrowR.same {base : Nat} {w w' : World} {v : Value} {l : List T} (h : GrowR base w v l) (hs : Same (fun b => base ≤ b ∧ b < w.heap.size) w w') (hz : w.heap.size ≤ w'.heap.size) : GrowR base w' v l := by
  obtain ⟨xs, h1, h2⟩ := h
  refine ⟨xs, ⟨h1.1, ?_⟩, h2.same (hs.mono fun b hb => ⟨hb.1, hb.2.1⟩) (fun b hb => ⟨hb.1, by have := hb.2.1; omega, hb.2.2⟩)⟩
  rcases h1.2 with h | ⟨g, cap, cur, e, hb, hg, r⟩
  · exact .inl h
  · exact .inr ⟨g, cap, cur, e, hb, (hs g ⟨hb, (Array.getElem?_eq_some_iff.1 hg).1⟩).trans hg, r⟩
theorem GrowR.below {base : Nat} {w w' : World} {v : Value} {l : List T} (h : GrowR base w v l) (hb : Below w.heap.size w w') : GrowR base w' v l := h.same (fun b hx => hb.block b hx.2) hb.size
theorem GrowR.form {base : Nat} {w : World} {v : Value} {l : List T} (h : GrowR base w v l) : ∃ A c, v = .slice A l.length c := by
  obtain ⟨xs, h1, _⟩ := h
  rcases h1.2 with ⟨e, h0⟩ | ⟨g, cap, cur, e, _⟩
  · exact ⟨none, 0, by rw [e, h0]⟩
  · exact ⟨_, _, e⟩
theorem GrowR.lt {base : Nat} {w : World} {v : Value} {l : List T} (h : GrowR base w v l) : ∀ g, v.ownBlock = some g → base ≤ g ∧ g < w.heap.size := by
  obtain ⟨xs, h1, _⟩ := h
  exact World.ownsRow.lt h1
/-- The finished list. -/
theorem GrowR.in_ {base : Nat} {w : World} {v : Value} {l : List T} (h : GrowR base w v l) : ∃ A c, v = .slice A l.length c ∧ TL.In w (fun b => base ≤ b ∧ b < w.heap.size) l A := by
  obtain ⟨xs, h1, h2⟩ := h
  rcases h1.2 with ⟨e, h0⟩ | ⟨g, cap, cur, e, hb, hg, _⟩
  · obtain rfl : l = [] := List.eq_nil_of_length_eq_zero h0
    exact ⟨none, 0, e, trivial⟩
  · refine ⟨some ⟨g, 0, none⟩, cap, e, TL.In.mk_ ⟨hb, (Array.getElem?_eq_some_iff.1 hg).1⟩ fun i t hi => ?_⟩
    obtain ⟨B, c, k1, k2⟩ := h2.at_ i t hi
    refine ⟨B, c, fun j u hu => ?_, k2.same (Same.refl _ _) (fun b hb => ⟨hb.1, hb.2.1⟩)⟩
    have := World.ownsRow.cells h1 (g := g) (by rw [e]; rfl) (i * 10 + j) u (k1 j u hu)
    rw [Addr.add_lit, Nat.zero_add] at this
    rw [Addr.add_lit, Nat.zero_add]
    exact this

section
variable {w : World} {ops : Array Oper} {rest : List Oper} {o : Oper} {a : Act} {Q : Exit → Act → World → Prop}
theorem wpList_append_nodeR (hgd : o.guard = none) (s x : Operand) (ho : o.op = .call { callee := .builtin .append, args := #[s, x], argTypes := #[25, 25] })
    (base : Nat) (v : Value) (l : List T) (hs : a.eval s = v) (hg : GrowR base w v l) (t : T) (B : Option Addr) (c g cap : Nat)
    (hx : a.eval x = .slice (some ⟨g, 0, none⟩) 1 cap) (hb : Blk w g 27 (t.hd.cells (.slice B t.subs.length c)).toArray) (ht : T.In w (fun b => base ≤ b ∧ b < w.heap.size ∧ some b ≠ v.ownBlock) t B) (hl : l.length < 1000000) (hbase : base ≤ w.heap.size)
    (h : ∀ v' w', GrowR base w' v' (l ++ [t]) → w.grownBy w' v.ownBlock → (v'.ownBlock = v.ownBlock ∨ v'.ownBlock = some w.heap.size) → wpList Tryd.prog ops Q rest (a.put o.dst v') w') : wpList Tryd.prog ops Q (o :: rest) a w := by
  obtain ⟨xs, h1, h2⟩ := hg
  obtain ⟨i, hi, hz0, hz1, hz2⟩ := info_parts Tryd.infoNode
  refine wpList_append_own_at w hgd s x 25 ho base 27 i _ 10 96 Tryd.underlying25 hi hz0 hz1 hz2 rfl (by decide) v l.length xs hs h1 ⟨g, 0, none⟩ 1 cap (t.hd.cells (.slice B t.subs.length c)) hx rfl ?_ (cells_one _ _ _ _) (by simp only [maxLen]; omega) (by omega) hbase ?_
  · intro j u hu
    rw [Addr.add_lit, Nat.zero_add, hb.cell]
    simpa using hu
  intro v' w' hown hgr _ hat
  have S : Same (fun b => base ≤ b ∧ b < w.heap.size ∧ some b ≠ v.ownBlock) w w' := fun b hb => hgr.block b hb.2.1 hb.2.2
  have hdisj : ∀ b, base ≤ b ∧ b < w.heap.size ∧ some b ≠ v.ownBlock → base ≤ b ∧ b < w'.heap.size ∧ some b ≠ v'.ownBlock := fun b hb => by
    refine ⟨hb.1, Nat.lt_of_lt_of_le hb.2.1 hgr.size, ?_⟩
    rcases hat with e | e
    · rw [e]; exact hb.2.2
    · rw [e]
      intro e2
      have := Option.some.inj e2
      have := hb.2.1
      omega
  refine h v' w' ⟨_, by simpa using hown, ?_⟩ hgr hat
  exact (TL.Kids.snoc ht h2).same S hdisj
end
end Go.Proofs.YtbbhobojghmkpaaDoor

/-! ## Exp -/
namespace Go.Proofs.YtbbhobojghmkpaaDoor
open Go.RowKit

/-- n times at most once; the first is bare as told. -/
def optList (x : T) : Nat → Bool → List T
  | 0, _ => []
  | n + 1, b => .mk ⟨8, 0, 0, 0, 0, 0, 0, 1, b⟩ [x] :: optList x n true
def starOf (x : T) : T := .mk ⟨8, 0, 0, 0, 0, 0, 0, -1, true⟩ [x]
/-- What a repeat is written out to. -/
def repList (h : Hd) (x : T) : List T := List.replicate h.min.toNat x ++ optList x (h.max - h.min).toNat (h.bare || decide (0 < h.min)) ++ if h.max = -1 then [starOf x] else []
mutual
def T.exp : T → T
  | .mk h l => if h.kind = 8 then TL.expRep h l else .mk h (TL.exp l)
def TL.expRep (h : Hd) : List T → T
  | [] => .mk h []
  | t :: _ => if h.max = 0 then T.seq [] else if h.min = 0 ∧ (h.max = 1 ∨ h.max = -1) then .mk h [t.exp] else T.seq (repList h t.exp)
def TL.exp : List T → List T
  | [] => []
  | t :: l => t.exp :: TL.exp l
end
theorem TL.exp_len : ∀ l : List T, (TL.exp l).length = l.length
  | [] => rfl
  | t :: l => by rw [TL.exp, List.length_cons, TL.exp_len l, List.length_cons]
theorem TL.exp_snoc : ∀ (l : List T) (t : T), TL.exp (l ++ [t]) = TL.exp l ++ [t.exp]
  | [], t => rfl
  | u :: l, t => by rw [List.cons_append, TL.exp, TL.exp_snoc l t, TL.exp]; rfl
theorem optList_len (x : T) : ∀ (n : Nat) (b : Bool), (optList x n b).length = n
  | 0, _ => rfl
  | n + 1, b => by rw [optList, List.length_cons, optList_len x n]
theorem optList_snoc (x : T) : ∀ (n : Nat) (b : Bool), optList x (n + 1) b = optList x n b ++ [.mk ⟨8, 0, 0, 0, 0, 0, 0, 1, if n = 0 then b else true⟩ [x]]
  | 0, b => rfl
  | n + 1, b => by
    rw [optList, optList_snoc x n true, optList]
    have : (if n = 0 then true else true) = true := by split <;> rfl
    rw [this]
    rfl
theorem TL.nodes_append : ∀ a b : List T, TL.nodes (a ++ b) = TL.nodes a + TL.nodes b
  | [], b => by simp [TL.nodes]
  | t :: a, b => by rw [List.cons_append, TL.nodes, TL.nodes, TL.nodes_append a b]; omega
theorem nodes_replicate (x : T) : ∀ n, TL.nodes (List.replicate n x) = n * x.nodes
  | 0 => by simp [TL.nodes]
  | n + 1 => by rw [List.replicate_succ, TL.nodes, nodes_replicate x n, Nat.succ_mul]; omega
theorem nodes_opt (x : T) : ∀ n b, TL.nodes (optList x n b) = n * (1 + x.nodes)
  | 0, _ => by simp [optList, TL.nodes]
  | n + 1, b => by
    rw [optList, TL.nodes, nodes_opt x n, Nat.succ_mul]
    simp only [T.nodes, TL.nodes]
    omega
theorem nodes_seq_many {l : List T} (h : 1 < l.length) : (T.seq l).nodes = 1 + TL.nodes l := by
  cases l with
  | nil => simp at h
  | cons a r =>
    cases r with
    | nil => simp at h
    | cons b r => simp only [T.seq, T.nodes]

theorem sumSize_ge : ∀ (l : List T) (n : Int), (∀ t ∈ l, 0 ≤ t.size) → 0 ≤ n → n ≤ 2001 → TL.size l n ≤ 2000 → n ≤ TL.size l n
  | [], n, _, _, _, _ => Int.le_refl _
  | t :: l, n, h, h0, h1, hs => by
    simp only [TL.size] at hs ⊢
    have ht := h t (by simp)
    have hm : n ≤ mn2 (n + t.size) 2001 := by unfold mn2; split <;> omega
    have hm2 : mn2 (n + t.size) 2001 ≤ 2001 := by unfold mn2; split <;> omega
    exact Int.le_trans hm (sumSize_ge l _ (fun s hs => h s (by simp [hs])) (by omega) hm2 hs)
theorem rep_sub {h : Hd} {l : List T} (hf : (T.mk h l).form = true) (h8 : h.kind = 8) : ∃ t, l = [t] ∧ t.form = true := by
  rw [T.form_eq, Bool.and_eq_true] at hf
  obtain ⟨h1, h2⟩ := hf
  have h3 : l.length = 1 := by
    replace h1 : h.formed (l.length : Int) = true := h1
    simp only [Hd.formed, h8] at h1
    simp at h1
    omega
  obtain ⟨t, rfl⟩ := List.length_eq_one_iff.1 h3
  exact ⟨t, rfl, TL.form_mem (l := [t]) h2 (by simp)⟩
theorem Hd.rounds_ge {h : Hd} {n : Int} (h0 : 0 ≤ n) (h2 : 0 ≤ h.min) (h4 : h.max = -1 ∨ h.min ≤ h.max) (hz : h.max ≠ 0) : n ≤ h.rounds n := by
  unfold Hd.rounds
  split
  · exact Int.le_refl _
  split
  · omega
  split
  · have := Int.mul_nonneg h2 h0
    omega
  · have h5 : h.min ≤ h.max := by rcases h4 with h | h <;> omega
    by_cases hm : h.min = 0
    · have h6 : 1 * (1 + n) ≤ (h.max - h.min) * (1 + n) := Int.mul_le_mul_of_nonneg_right (by omega) (by omega)
      have := Int.mul_nonneg h2 h0
      omega
    · have h6 : 1 * n ≤ h.min * n := Int.mul_le_mul_of_nonneg_right (by omega) h0
      have := Int.mul_nonneg (show 0 ≤ h.max - h.min by omega) (show 0 ≤ 1 + n by omega)
      omega
theorem rep_nodes {h : Hd} {x : T} {n : Int} (hx : (x.nodes : Int) ≤ n) (h2 : 0 ≤ h.min) (h4 : h.max = -1 ∨ h.min ≤ h.max) (hz : h.max ≠ 0) (hs : ¬ (h.min = 0 ∧ (h.max = 1 ∨ h.max = -1))) : ((T.seq (repList h x)).nodes : Int) ≤ h.rounds n := by
  have hxp : (0 : Int) ≤ x.nodes := by omega
  by_cases h11 : h.min = 1 ∧ h.max = 1
  · have e : repList h x = [x] := by
      unfold repList
      rw [h11.1, h11.2]
      rfl
    rw [e]
    unfold Hd.rounds
    rw [if_pos h11]
    exact hx
  have hlen : 1 < (repList h x).length := by
    unfold repList
    rw [List.length_append, List.length_append, List.length_replicate, optList_len]
    rcases h4 with h5 | h5
    · rw [if_pos h5]
      simp only [List.length_cons, List.length_nil]
      have : h.min ≠ 0 := fun e => hs ⟨e, .inr h5⟩
      omega
    · have : h.max ≠ 1 ∨ (h.min ≠ 0 ∧ h.min ≠ 1) := by
        by_cases e : h.max = 1
        · exact .inr ⟨fun e2 => hs ⟨e2, .inl e⟩, fun e2 => h11 ⟨e2, e⟩⟩
        · exact .inl e
      omega
  rw [nodes_seq_many hlen]
  unfold repList
  rw [TL.nodes_append, TL.nodes_append, nodes_replicate, nodes_opt]
  unfold Hd.rounds
  rw [if_neg h11, if_neg hs]
  have e1 : ((h.min.toNat : Nat) : Int) = h.min := Int.toNat_of_nonneg h2
  have p1 : h.min * (x.nodes : Int) ≤ h.min * n := Int.mul_le_mul_of_nonneg_left hx h2
  by_cases hm : h.max = -1
  · rw [if_pos hm, if_pos hm]
    have e2 : (h.max - h.min).toNat = 0 := by omega
    rw [e2]
    have e3 : TL.nodes [starOf x] = 1 + x.nodes := by simp only [starOf, TL.nodes, T.nodes]; omega
    rw [e3, Nat.zero_mul]
    have e4 : ((h.min.toNat * x.nodes : Nat) : Int) = h.min * (x.nodes : Int) := by rw [Int.natCast_mul, e1]
    omega
  · rw [if_neg hm, if_neg hm]
    have h5 : h.min ≤ h.max := by rcases h4 with h | h <;> omega
    have e2 : (((h.max - h.min).toNat : Nat) : Int) = h.max - h.min := Int.toNat_of_nonneg (by omega)
    have p2 : (h.max - h.min) * (1 + (x.nodes : Int)) ≤ (h.max - h.min) * (1 + n) := Int.mul_le_mul_of_nonneg_left (by omega) (by omega)
    have e4 : ((h.min.toNat * x.nodes : Nat) : Int) = h.min * (x.nodes : Int) := by rw [Int.natCast_mul, e1]
    have e5 : (((h.max - h.min).toNat * (1 + x.nodes) : Nat) : Int) = (h.max - h.min) * (1 + (x.nodes : Int)) := by rw [Int.natCast_mul, e2]; rfl
    simp only [TL.nodes]
    omega
mutual
theorem T.exp_nodes : ∀ t : T, t.form = true → t.size ≤ 2000 → (t.exp.nodes : Int) ≤ t.size
  | .mk h l, hf, hs => by
    by_cases h8 : h.kind = 8
    · obtain ⟨t, rfl, hft⟩ := rep_sub hf h8
      have hfm : h.formed 1 = true := by
        rw [T.form_eq, Bool.and_eq_true] at hf
        exact hf.1
      obtain ⟨b1, b2, b3⟩ := Hd.rep_bd hfm h8
      have b4 : h.max = -1 ∨ h.min ≤ h.max := by rcases b3 with h | h; exact .inl h; exact .inr h.1
      simp only [T.exp, if_pos h8, TL.expRep]
      simp only [T.size, Hd.grow, if_pos h8] at hs ⊢
      by_cases hz : h.max = 0
      · rw [if_pos hz, if_pos ⟨h8, hz⟩]
        simp [T.seq, T.nodes, TL.nodes]
      · rw [if_neg hz]
        have hkz : ¬ (h.kind = 8 ∧ h.max = 0) := fun e => hz e.2
        rw [if_neg hkz] at hs ⊢
        have hbd := T.size_bd t hft
        simp only [TL.size] at hs ⊢
        have hn : mn2 (0 + t.size) 2001 = t.size := by unfold mn2; rw [if_neg (by omega)]; omega
        rw [hn] at hs ⊢
        have hge := Hd.rounds_ge hbd.1 b1 b4 hz
        have hr : mn2 (h.rounds t.size) 2001 = h.rounds t.size := by unfold mn2 at hs ⊢; split at hs <;> omega
        rw [hr] at hs ⊢
        have ih := T.exp_nodes t hft (by omega)
        by_cases hq : h.min = 0 ∧ (h.max = 1 ∨ h.max = -1)
        · rw [if_pos hq]
          simp only [T.nodes, TL.nodes]
          unfold Hd.rounds
          rw [if_neg (by omega), if_pos hq]
          omega
        · rw [if_neg hq]
          exact rep_nodes ih b1 b4 hz hq
    · simp only [T.exp, if_neg h8, T.nodes]
      simp only [T.size, Hd.grow, if_neg h8] at hs ⊢
      rw [if_neg (fun e => h8 e.1)] at hs ⊢
      rw [T.form_eq, Bool.and_eq_true] at hf
      have hbd := TL.size_bd l hf.2 0 (by omega) (by omega)
      have hm : mn2 (TL.size l 0 + 1) 2001 = TL.size l 0 + 1 := by unfold mn2 at hs ⊢; split at hs <;> omega
      rw [hm] at hs ⊢
      have := TL.exp_nodes l hf.2 0 (by omega) (by omega) (by omega)
      omega
theorem TL.exp_nodes : ∀ l : List T, TL.form l = true → ∀ n, 0 ≤ n → n ≤ 2001 → TL.size l n ≤ 2000 → n + (TL.nodes (TL.exp l) : Int) ≤ TL.size l n
  | [], _, n, _, _, _ => by simp [TL.exp, TL.nodes, TL.size]
  | t :: l, hf, n, h0, h1, hs => by
    simp only [TL.form, Bool.and_eq_true] at hf
    have hbd := T.size_bd t hf.1
    simp only [TL.size] at hs ⊢
    have hmb := mn2_bd (x := n + t.size) (by omega)
    have hge := sumSize_ge l (mn2 (n + t.size) 2001) (fun s hs => (T.size_bd s (TL.form_mem hf.2 hs)).1) hmb.1 hmb.2 hs
    have hm : mn2 (n + t.size) 2001 = n + t.size := by
      have : mn2 (n + t.size) 2001 ≤ 2000 := by omega
      unfold mn2 at this ⊢
      split at this <;> omega
    rw [hm] at hs hge ⊢
    have i1 := T.exp_nodes t hf.1 (by omega)
    have i2 := TL.exp_nodes l hf.2 (n + t.size) (by omega) (by omega) hs
    simp only [TL.exp, TL.nodes]
    omega
end
theorem sub_size {l : List T} (hf : TL.form l = true) : ∀ {n : Int}, 0 ≤ n → n ≤ 2001 → TL.size l n ≤ 2000 → ∀ t ∈ l, t.size ≤ 2000 := by
  induction l with
  | nil => intro n _ _ _ t ht; cases ht
  | cons s l ih =>
    intro n h0 h1 hs t ht
    simp only [TL.form, Bool.and_eq_true] at hf
    have hbd := T.size_bd s hf.1
    simp only [TL.size] at hs
    have hmb := mn2_bd (x := n + s.size) (by omega)
    have hge := sumSize_ge l (mn2 (n + s.size) 2001) (fun s hs => (T.size_bd s (TL.form_mem hf.2 hs)).1) hmb.1 hmb.2 hs
    rcases List.mem_cons.1 ht with e | e
    · subst e
      have : mn2 (n + t.size) 2001 ≤ 2000 := by omega
      unfold mn2 at this
      split at this <;> omega
    · exact ih hf.2 hmb.1 hmb.2 hs t e
theorem node_sub_size {h : Hd} {l : List T} (hf : (T.mk h l).form = true) (hs : (T.mk h l).size ≤ 2000) (h8 : h.kind ≠ 8) : ∀ t ∈ l, t.size ≤ 2000 := by
  rw [T.form_eq, Bool.and_eq_true] at hf
  simp only [T.size, Hd.grow, if_neg h8] at hs
  rw [if_neg (fun e => h8 e.1)] at hs
  have hbd := TL.size_bd l hf.2 0 (by omega) (by omega)
  refine sub_size hf.2 (n := 0) (by omega) (by omega) ?_
  unfold mn2 at hs
  split at hs <;> omega
theorem rep_sub_size {h : Hd} {t : T} (hf : (T.mk h [t]).form = true) (hs : (T.mk h [t]).size ≤ 2000) (h8 : h.kind = 8) (hz : h.max ≠ 0) : t.size ≤ 2000 ∧ ((T.mk h [t]).exp.nodes : Int) ≤ 2000 := by
  have hx := T.exp_nodes _ hf hs
  refine ⟨?_, by omega⟩
  have hf2 := hf
  rw [T.form_eq, Bool.and_eq_true] at hf
  have hft : t.form = true := TL.form_mem (l := [t]) hf.2 (by simp)
  obtain ⟨b1, b2, b3⟩ := Hd.rep_bd (n := 1) hf.1 h8
  have b4 : h.max = -1 ∨ h.min ≤ h.max := by rcases b3 with h | h; exact .inl h; exact .inr h.1
  simp only [T.size, Hd.grow, if_pos h8] at hs
  have hkz : ¬ (h.kind = 8 ∧ h.max = 0) := fun e => hz e.2
  rw [if_neg hkz] at hs
  have hbd := T.size_bd t hft
  simp only [TL.size] at hs
  have hn : mn2 (0 + t.size) 2001 = t.size := by unfold mn2; rw [if_neg (by omega)]; omega
  rw [hn] at hs
  have hge : t.size ≤ h.rounds t.size := Hd.rounds_ge hbd.1 b1 b4 hz
  unfold mn2 at hs
  split at hs <;> omega
end Go.Proofs.YtbbhobojghmkpaaDoor

/-! ## ExpWalk -/
namespace Go.Proofs.YtbbhobojghmkpaaDoor
open Go.RowKit

/-- A tree in new memory was returned; its parts may share it. -/
def NewTree (t : T) (w : World) (e : Ending) (w' : World) : Prop := ∃ B c, e = .returned (.agg (t.hd.cells (.slice B t.subs.length c)).toArray) ∧ T.In w' (fun b => w.heap.size ≤ b ∧ b < w'.heap.size) t B ∧ Below w.heap.size w w'

theorem Fresh.newTree {t : T} {w : World} {e : Ending} {w' : World} (h : Fresh t w e w') : NewTree t w e w' := by
  obtain ⟨B, c, bs, he, hown, _, hfr, hb⟩ := h
  exact ⟨B, c, he, hown.in_ fun b hb => hfr b hb, hb⟩

/-- A contract of expanded, for one tree. -/
def ExpC (t : T) : Prop := ∀ (A : Option Addr) (c : Nat) (w : World), T.In w (· < w.heap.size) t A → Calls Tryd.prog 111 #[.agg (t.hd.cells (.slice A t.subs.length c)).toArray] w (NewTree t.exp w)

set_option maxRecDepth 100000 in
set_option maxHeartbeats 4000000 in
theorem expNode_any (kind s0 s1 s2 s3 num mn mx : Int) (bare : Bool) (l : List T) (h8 : kind ≠ 8) (hll : l.length ≤ 1000000) (ih : ∀ t ∈ l, ExpC t) : ExpC (.mk ⟨kind, s0, s1, s2, s3, num, mn, mx, bare⟩ l) := by
  intro A c w hin
  have e8 : (kind == 8) = false := beq_false_of_ne h8
  have HE := hide (show (T.mk ⟨kind, s0, s1, s2, s3, num, mn, mx, bare⟩ l).exp = .mk ⟨kind, s0, s1, s2, s3, num, mn, mx, bare⟩ (TL.exp l) by simp only [T.exp, if_neg h8])
  have HIN := hide hin
  clear h8 hin
  simp only [T.hd, T.subs, Hd.cells]
  have hb2 := ((Below.refl w.heap.size w).alloc (Nat.le_refl _) (.cells #[.int .i64 kind, .int .u64 s0, .int .u64 s1, .int .u64 s2, .int .u64 s3, .slice A l.length c, .int .i64 num, .int .i64 mn, .int .i64 mx, .bool bare] 27)).alloc (by simp) (.cells #[.int .i64 0, .int .u64 0, .int .u64 0, .int .u64 0, .int .u64 0, .slice none 0 0, .int .i64 0, .int .i64 0, .int .i64 0, .bool false] 27)
  have hbt := (Blk.new w 27 #[.int .i64 kind, .int .u64 s0, .int .u64 s1, .int .u64 s2, .int .u64 s3, .slice A l.length c, .int .i64 num, .int .i64 mn, .int .i64 mx, .bool bare]).alloc (.cells #[.int .i64 0, .int .u64 0, .int .u64 0, .int .u64 0, .int .u64 0, .slice none 0 0, .int .i64 0, .int .i64 0, .int .i64 0, .bool false] 27)
  have hbr := Blk.new (w.alloc (.cells #[.int .i64 kind, .int .u64 s0, .int .u64 s1, .int .u64 s2, .int .u64 s3, .slice A l.length c, .int .i64 num, .int .i64 mn, .int .i64 mx, .bool bare] 27)) 27 #[.int .i64 0, .int .u64 0, .int .u64 0, .int .u64 0, .int .u64 0, .slice none 0 0, .int .i64 0, .int .i64 0, .int .i64 0, .bool false]
  rw [World.size_alloc] at hbr
  have hsz : w.heap.size + 1 < ((w.alloc (.cells #[.int .i64 kind, .int .u64 s0, .int .u64 s1, .int .u64 s2, .int .u64 s3, .slice A l.length c, .int .i64 num, .int .i64 mn, .int .i64 mx, .bool bare] 27)).alloc (.cells #[.int .i64 0, .int .u64 0, .int .u64 0, .int .u64 0, .int .u64 0, .slice none 0 0, .int .i64 0, .int .i64 0, .int .i64 0, .bool false] 27)).heap.size := by simp
  have H0 := hide (And.intro hb2 (And.intro hbt hbr))
  clear hb2 hbt hbr
  go_enter Tryd.func111, Tryd.ntmps111
  have c0 := H0.out.2.1.cell
  go_wp2_with fail
  clear c0
  generalize ((w.alloc (.cells #[.int .i64 kind, .int .u64 s0, .int .u64 s1, .int .u64 s2, .int .u64 s3, .slice A l.length c, .int .i64 num, .int .i64 mn, .int .i64 mx, .bool bare] 27)).alloc (.cells #[.int .i64 0, .int .u64 0, .int .u64 0, .int .u64 0, .int .u64 0, .slice none 0 0, .int .i64 0, .int .i64 0, .int .i64 0, .bool false] 27)) = W0 at *
  go_loopw [3, 14] (fun v iv wr => ∃ k : Nat, iv = .int .i64 k ∧ k ≤ l.length ∧ GrowR (w.heap.size + 2) wr v (TL.exp (l.take k)) ∧ Below w.heap.size w wr ∧ Blk wr w.heap.size 27 #[.int .i64 kind, .int .u64 s0, .int .u64 s1, .int .u64 s2, .int .u64 s3, .slice A l.length c, .int .i64 num, .int .i64 mn, .int .i64 mx, .bool bare] ∧ Blk wr (w.heap.size + 1) 27 #[.int .i64 0, .int .u64 0, .int .u64 0, .int .u64 0, .int .u64 0, .slice none 0 0, .int .i64 0, .int .i64 0, .int .i64 0, .bool false] ∧ w.heap.size + 2 ≤ wr.heap.size) (fun _ iv _ => l.length - (intOf iv).toNat)
  case atStart => exact ⟨0, rfl, by omega, GrowR.nil _ _, H0.out.1, H0.out.2.1, H0.out.2.2, by omega⟩
  case round =>
    clear H0
    obtain ⟨k, rfl, hk, hgrow, hbel, hbt, hbr, hsw⟩ := hrel
    by_cases hlt : k < l.length
    case neg =>
      have g1 : decide ((k : Int) < (l.length : Int)) = false := decide_eq_false (by omega)
      obtain rfl : k = l.length := by omega
      rw [List.take_length] at hgrow
      obtain ⟨A3, c3, hv, hin3⟩ := hgrow.in_
      subst hv
      rw [TL.exp_len]
      have c0 := hbt.cell
      have f0 := hbt.frozen
      have H1 := hide (And.intro hin3 (And.intro hbel (And.intro hbt hbr)))
      clear hgrow hin3 hbel hbt hbr
      go_upto_region 10 with fail
      clear c0 f0
      have hbt2 := heap_setCell_same wr w.heap.size 5 _ _ (.slice A3 l.length c3) H1.out.2.2.1
      have hbr2 := H1.out.2.2.2.far (p := ⟨w.heap.size, 5, none⟩) (by show w.heap.size + 1 ≠ w.heap.size; omega) (.slice A3 l.length c3)
      have hin2 := H1.out.1.same (ok' := fun b => w.heap.size + 2 ≤ b ∧ b < wr.heap.size) ((Same.refl _ wr).set (p := ⟨w.heap.size, 5, none⟩) (fun h => by have h1 : w.heap.size + 2 ≤ w.heap.size := h.1; omega) (.slice A3 l.length c3)) (fun b h => h)
      have hbel2 := H1.out.2.1.setCell (p := ⟨w.heap.size, 5, none⟩) (Nat.le_refl _) (.slice A3 l.length c3)
      have hsz2 : wr.heap.size ≤ (wr.setCell ⟨w.heap.size, 5, none⟩ (.slice A3 l.length c3)).heap.size := by simp
      have H2 := hide (And.intro hin2 (And.intro hbel2 hbr2))
      have HBT := hide (show Blk _ w.heap.size _ #[.int .i64 kind, .int .u64 s0, .int .u64 s1, .int .u64 s2, .int .u64 s3, .slice A3 l.length c3, .int .i64 num, .int .i64 mn, .int .i64 mx, .bool bare] from hbt2)
      clear hbt2 hbr2 hin2 hbel2 H1
      generalize (wr.setCell ⟨w.heap.size, 5, none⟩ (.slice A3 l.length c3)) = W1 at *
      have c0 := HBT.out.cell
      go_wp2_with (refine wpList_store_row rfl _ _ _ rfl (w.heap.size + 1) 0 _ _ _ rfl rfl H2.out.2.2 Tryd.sizeNode (by simp) (by simp [Value.oneCell']) ?_)
      intro w9 hrow2 hg9 hz9
      have hrow := hrow2.out
      rw [splice_full (by rfl)] at hrow
      have hin9 := H2.out.1.same (ok' := fun b => w.heap.size ≤ b ∧ b < w9.heap.size) (fun b hb => hg9.block b (by have := hb.2; omega) (fun e => by have := Option.some.inj e; have := hb.1; omega)) (fun b hb => ⟨by have := hb.1; omega, by have := hb.2; have := hg9.size; omega⟩)
      have hb9 := below_grew H2.out.2.1 hg9 (Nat.le_refl _) (fun q hq => by rw [← Option.some.inj hq]; omega)
      have HF := hide (And.intro hrow (And.intro hin9 hb9))
      clear hrow hrow2 hg9 hz9 c0
      go_wp2_with fail
      refine bodyPost_ret (results_cell_row rfl _ _ (w.heap.size + 1) _ _ (0, 0) _ rfl HF.out.1 Tryd.underlying27 rfl Tryd.sizeNode) rfl ?_
      rw [HE.out]
      exact ⟨A3, c3, by simp only [T.hd, T.subs, Hd.cells, TL.exp_len], by rw [T.In_iff]; exact HF.out.2.1, HF.out.2.2⟩
    have g1 : decide ((k : Int) < (l.length : Int)) = true := decide_eq_true (by omega)
    have hs := List.getElem?_eq_getElem hlt
    have htk : l.take (k + 1) = l.take k ++ [l[k]] := by rw [List.take_add_one, hs]; rfl
    have hmem := List.getElem_mem hlt
    generalize l[k] = s9 at *
    obtain ⟨b, o, B, c', rfl, hbk, hcs, hsub⟩ := TL.In.at_ (T.In_iff.1 HIN.out) hs
    obtain ⟨n0, n1, n2, n3, n4, n5, n6, n7, n8, n9⟩ := (hcs.same (same_of_below hbel) hbk).node
    have HT := hide htk
    clear hs htk hcs
    have hlow := hgrow.lt
    have hal := (Below.refl wr.heap.size wr).alloc (Nat.le_refl _) (.cells #[.int .i64 s9.hd.kind, .int .u64 s9.hd.s0, .int .u64 s9.hd.s1, .int .u64 s9.hd.s2, .int .u64 s9.hd.s3, .slice B s9.subs.length c', .int .i64 s9.hd.num, .int .i64 s9.hd.min, .int .i64 s9.hd.max, .bool s9.hd.bare] 27)
    have hsub1 := hsub.same (ok' := (· < (wr.alloc (.cells #[.int .i64 s9.hd.kind, .int .u64 s9.hd.s0, .int .u64 s9.hd.s1, .int .u64 s9.hd.s2, .int .u64 s9.hd.s3, .slice B s9.subs.length c', .int .i64 s9.hd.num, .int .i64 s9.hd.min, .int .i64 s9.hd.max, .bool s9.hd.bare] 27)).heap.size)) ((same_of_below hbel).trans ((same_of_below hal).mono fun b hb => by have := hbel.size; omega)) (fun b hb => by simp; omega)
    have HC := hide (ih s9 hmem B c' _ hsub1)
    simp only [Hd.cells] at HC
    have cs := (Blk.new wr 27 #[.int .i64 s9.hd.kind, .int .u64 s9.hd.s0, .int .u64 s9.hd.s1, .int .u64 s9.hd.s2, .int .u64 s9.hd.s3, .slice B s9.subs.length c', .int .i64 s9.hd.num, .int .i64 s9.hd.min, .int .i64 s9.hd.max, .bool s9.hd.bare]).cell
    have H1 := hide (And.intro (hgrow.below hal) (And.intro (hbel.trans (hal.mono (by omega))) (And.intro (hbt.nxt hal) (hbr.nxt hal))))
    have HLO := hide hlow
    have hw1 : wr.heap.size < (wr.alloc (.cells #[.int .i64 s9.hd.kind, .int .u64 s9.hd.s0, .int .u64 s9.hd.s1, .int .u64 s9.hd.s2, .int .u64 s9.hd.s3, .slice B s9.subs.length c', .int .i64 s9.hd.num, .int .i64 s9.hd.min, .int .i64 s9.hd.max, .bool s9.hd.bare] 27)).heap.size := by simp
    clear hsub hsub1 hal hgrow hbel hbt hbr hlow
    go_upto_region 7 with fail
    generalize (wr.alloc (.cells #[.int .i64 s9.hd.kind, .int .u64 s9.hd.s0, .int .u64 s9.hd.s1, .int .u64 s9.hd.s2, .int .u64 s9.hd.s3, .slice B s9.subs.length c', .int .i64 s9.hd.num, .int .i64 s9.hd.min, .int .i64 s9.hd.max, .bool s9.hd.bare] 27)) = W1 at *
    clear n0 n1 n2 n3 n4 n5 n6 n7 n8 n9
    go_wp2_with fail
    refine HC.out.mono ?_
    rintro e w2 ⟨B2, c2, he, hin2, hb2⟩
    simp only [Hd.cells] at he
    subst he
    clear cs HC
    have hal2 := (Below.refl w2.heap.size w2).alloc (Nat.le_refl _) (.cells #[.int .i64 s9.exp.hd.kind, .int .u64 s9.exp.hd.s0, .int .u64 s9.exp.hd.s1, .int .u64 s9.exp.hd.s2, .int .u64 s9.exp.hd.s3, .slice B2 s9.exp.subs.length c2, .int .i64 s9.exp.hd.num, .int .i64 s9.exp.hd.min, .int .i64 s9.exp.hd.max, .bool s9.exp.hd.bare] 27)
    have hw2 : W1.heap.size ≤ w2.heap.size := hb2.size
    have hgA := hide ((H1.out.1.below hb2).below hal2)
    have hin3 := hide (hin2.same (ok' := fun b => w.heap.size + 2 ≤ b ∧ b < (w2.alloc (.cells #[.int .i64 s9.exp.hd.kind, .int .u64 s9.exp.hd.s0, .int .u64 s9.exp.hd.s1, .int .u64 s9.exp.hd.s2, .int .u64 s9.exp.hd.s3, .slice B2 s9.exp.subs.length c2, .int .i64 s9.exp.hd.num, .int .i64 s9.exp.hd.min, .int .i64 s9.exp.hd.max, .bool s9.exp.hd.bare] 27)).heap.size ∧ some b ≠ u3.ownBlock) ((same_of_below hal2).mono fun b hb => hb.2) (fun b hb => ⟨by have := hb.1; omega, by have := hb.2; simp; omega, fun e => by have := (HLO.out b e.symm).2; have := hb.1; omega⟩))
    have hln : (TL.exp (l.take k)).length < 1000000 := by rw [TL.exp_len, List.length_take]; omega
    have H2 := hide (And.intro ((H1.out.2.1.trans (hb2.mono (by omega))).trans (hal2.mono (by omega))) (And.intro ((H1.out.2.2.1.nxt hb2).nxt hal2) ((H1.out.2.2.2.nxt hb2).nxt hal2)))
    clear hin2 hb2 hal2 H1
    go_wp2_with (at_builtin; refine wpList_append_nodeR rfl _ _ rfl (w.heap.size + 2) _ (TL.exp (l.take k)) rfl hgA.out s9.exp B2 c2 w2.heap.size 1 rfl (Blk.new _ _ _) hin3.out hln (by simp; omega) ?_)
    intro v' w5 hgr5 hg5 hat5
    have hne5 : ∀ q, q < w.heap.size + 2 → some q ≠ u3.ownBlock := fun q hq e => by have := (HLO.out q e.symm).1; omega
    have hz5 := hg5.size
    simp only [World.size_alloc] at hz5
    have hb5 := below_grew H2.out.1 hg5 (Nat.le_refl _) (fun g hg => by have := (HLO.out g hg).1; omega)
    have hbt5 := H2.out.2.1.grown hg5 (hne5 _ (by omega))
    have hbr5 := H2.out.2.2.grown hg5 (hne5 _ (by omega))
    rw [← TL.exp_snoc, ← HT.out] at hgr5
    have H5 := hide (And.intro hgr5 (And.intro hb5 (And.intro hbt5 hbr5)))
    clear hgr5 hg5 hat5 hne5 hb5 hbt5 hbr5 hgA hin3
    go_wp2_with fail
    go_roundw
    case rel => exact ⟨k + 1, by go_num, hlt, H5.out.1, H5.out.2.1, H5.out.2.2.1, H5.out.2.2.2, by omega⟩
    case measure => simp [intOf]; omega
end Go.Proofs.YtbbhobojghmkpaaDoor

/-! ## ExpRep -/
namespace Go.Proofs.YtbbhobojghmkpaaDoor
open Go.RowKit

theorem seq_nodes (l : List T) : TL.nodes l ≤ (T.seq l).nodes := by
  cases l with
  | nil => simp [TL.nodes]
  | cons a r =>
    cases r with
    | nil => simp [TL.nodes, T.seq]
    | cons b r => simp only [T.seq, T.nodes]; omega

/-- The list under way, the boxes, the Sub's expansion. -/
structure RepAt (w : World) (X gx : Nat) (ct : Array Value) (x : T) (B : Option Addr) (c : Nat) (v : Value) (l : List T) (wr : World) : Prop where
  grow : GrowR (w.heap.size + 2) wr v l
  own : ∀ g, v.ownBlock = some g → X ≤ g
  below : Below w.heap.size w wr
  bt : Blk wr w.heap.size 27 ct
  br : Blk wr (w.heap.size + 1) 27 #[.int .i64 0, .int .u64 0, .int .u64 0, .int .u64 0, .int .u64 0, .slice none 0 0, .int .i64 0, .int .i64 0, .int .i64 0, .bool false]
  bx : Blk wr gx 27 (x.hd.cells (.slice B x.subs.length c)).toArray
  xin : T.In wr (fun b => w.heap.size + 2 ≤ b ∧ b < X) x B
  gxX : gx < X
  gx2 : w.heap.size + 2 ≤ gx
  sz : X ≤ wr.heap.size
section
variable {w wr w' w5 : World} {X gx : Nat} {ct : Array Value} {x t : T} {B : Option Addr} {c : Nat} {v v' : Value} {l : List T}
theorem RepAt.next (h : RepAt w X gx ct x B c v l wr) (hb : Below wr.heap.size wr w') : RepAt w X gx ct x B c v l w' :=
  have h1 := h.sz
  have h2 := h.gxX
  have h3 := h.gx2
  ⟨h.grow.below hb, h.own, h.below.trans (hb.mono (by omega)), h.bt.nxt hb, h.br.nxt hb, h.bx.nxt hb, h.xin.same (same_of_below (hb.mono h1) |>.mono fun b hb => hb.2) (fun b hb => hb), h.gxX, h.gx2, Nat.le_trans h1 hb.size⟩
theorem RepAt.push (h : RepAt w X gx ct x B c v l w') (hgr : GrowR (w.heap.size + 2) w5 v' (l ++ [t])) (hg : w'.grownBy w5 v.ownBlock) (hat : v'.ownBlock = v.ownBlock ∨ ∀ g, v'.ownBlock = some g → X ≤ g) : RepAt w X gx ct x B c v' (l ++ [t]) w5 := by
  have h1 := h.sz
  have h2 := h.gxX
  have h3 := h.gx2
  have hne : ∀ q, q < X → some q ≠ v.ownBlock := fun q hq e => by have := h.own q e.symm; omega
  refine ⟨hgr, fun g hg => ?_, below_grew h.below hg (Nat.le_refl _) (fun g hg => by have := h.own g hg; omega), h.bt.grown hg (hne _ (by omega)), h.br.grown hg (hne _ (by omega)), h.bx.grown hg (hne _ h2), h.xin.same (fun b hb => hg.block b (by have := hb.2; omega) (hne b hb.2)) (fun b hb => hb), h.gxX, h.gx2, Nat.le_trans h1 hg.size⟩
  rcases hat with e | e
  · rw [e] at hg; exact h.own g hg
  · exact e g hg
theorem rep_in {ok : Nat → Prop} {hd : Hd} {g : Nat} {W : World} (hg : ok g) (hb : Blk W g 27 (x.hd.cells (.slice B x.subs.length c)).toArray) (hx : T.In W ok x B) : T.In W ok (.mk hd [x]) (some ⟨g, 0, none⟩) := by
  refine ⟨g, 0, B, c, rfl, hg, fun j u hu => ?_, hx, trivial⟩
  rw [Addr.add_lit, Nat.zero_add, hb.cell]
  simpa using hu
end

set_option maxRecDepth 100000 in
set_option maxHeartbeats 4000000 in
theorem expRepeat_any (s0 s1 s2 s3 num mx : Int) (m : Nat) (bare : Bool) (t0 : T) (hm : m ≤ 255) (hmx : mx = -1 ∨ ((m : Int) ≤ mx ∧ mx ≤ 255)) (hN : mx ≠ 0 → (T.mk ⟨8, s0, s1, s2, s3, num, m, mx, bare⟩ [t0]).exp.nodes ≤ 2000) (ih : mx ≠ 0 → ExpC t0)
    (A : Option Addr) (c : Nat) (w : World) (hin : T.In w (· < w.heap.size) (.mk ⟨8, s0, s1, s2, s3, num, m, mx, bare⟩ [t0]) A) :
    Calls Tryd.prog 133 #[.agg #[.int .i64 8, .int .u64 s0, .int .u64 s1, .int .u64 s2, .int .u64 s3, .slice A 1 c, .int .i64 num, .int .i64 (m : Int), .int .i64 mx, .bool bare]] w (NewTree (T.mk ⟨8, s0, s1, s2, s3, num, m, mx, bare⟩ [t0]).exp w) := by
  have HIN := hide hin
  have HN := hide hN
  have HIH := hide ih
  have HMX := hide hmx
  obtain ⟨R, hR⟩ : ∃ R, R = (T.mk ⟨8, s0, s1, s2, s3, num, m, mx, bare⟩ [t0]).exp := ⟨_, rfl⟩
  rw [← hR]
  have HR := hide hR
  clear hR hin hN ih hmx
  have hb2 := ((Below.refl w.heap.size w).alloc (Nat.le_refl _) (.cells #[.int .i64 8, .int .u64 s0, .int .u64 s1, .int .u64 s2, .int .u64 s3, .slice A 1 c, .int .i64 num, .int .i64 (m : Int), .int .i64 mx, .bool bare] 27)).alloc (by simp) (.cells #[.int .i64 0, .int .u64 0, .int .u64 0, .int .u64 0, .int .u64 0, .slice none 0 0, .int .i64 0, .int .i64 0, .int .i64 0, .bool false] 27)
  have hbt := (Blk.new w 27 #[.int .i64 8, .int .u64 s0, .int .u64 s1, .int .u64 s2, .int .u64 s3, .slice A 1 c, .int .i64 num, .int .i64 (m : Int), .int .i64 mx, .bool bare]).alloc (.cells #[.int .i64 0, .int .u64 0, .int .u64 0, .int .u64 0, .int .u64 0, .slice none 0 0, .int .i64 0, .int .i64 0, .int .i64 0, .bool false] 27)
  have hbr := Blk.new (w.alloc (.cells #[.int .i64 8, .int .u64 s0, .int .u64 s1, .int .u64 s2, .int .u64 s3, .slice A 1 c, .int .i64 num, .int .i64 (m : Int), .int .i64 mx, .bool bare] 27)) 27 #[.int .i64 0, .int .u64 0, .int .u64 0, .int .u64 0, .int .u64 0, .slice none 0 0, .int .i64 0, .int .i64 0, .int .i64 0, .bool false]
  rw [World.size_alloc] at hbr
  have hsz : w.heap.size + 1 < ((w.alloc (.cells #[.int .i64 8, .int .u64 s0, .int .u64 s1, .int .u64 s2, .int .u64 s3, .slice A 1 c, .int .i64 num, .int .i64 (m : Int), .int .i64 mx, .bool bare] 27)).alloc (.cells #[.int .i64 0, .int .u64 0, .int .u64 0, .int .u64 0, .int .u64 0, .slice none 0 0, .int .i64 0, .int .i64 0, .int .i64 0, .bool false] 27)).heap.size := by simp
  have H0 := hide (And.intro hb2 (And.intro hbt hbr))
  clear hb2 hbt hbr
  have c0 := H0.out.2.1.cell
  go_enter Tryd.func133, Tryd.ntmps133
  go_upto_region 1 with fail
  generalize ((w.alloc (.cells #[.int .i64 8, .int .u64 s0, .int .u64 s1, .int .u64 s2, .int .u64 s3, .slice A 1 c, .int .i64 num, .int .i64 (m : Int), .int .i64 mx, .bool bare] 27)).alloc (.cells #[.int .i64 0, .int .u64 0, .int .u64 0, .int .u64 0, .int .u64 0, .slice none 0 0, .int .i64 0, .int .i64 0, .int .i64 0, .bool false] 27)) = W0 at *
  by_cases hz : mx = 0
  case pos =>
    subst hz
    have HS := hide (seq_any [] none 0 W0 (by simp [TL.nodes]) trivial)
    go_wp2_with fail
    refine HS.out.mono ?_
    rintro e w2 hfr
    obtain ⟨B, c2, he, hin2, hb2⟩ := hfr.newTree
    simp only [T.seq, T.hd, T.subs, Hd.cells] at he
    subst he
    have hw2 := hb2.size
    have H1 := hide (And.intro hin2 (And.intro (H0.out.1.trans (hb2.mono (by omega))) (H0.out.2.2.nxt hb2)))
    clear hin2 hb2 hfr HS c0
    go_wp2_with (refine wpList_store_row rfl _ _ _ rfl (w.heap.size + 1) 0 _ _ _ rfl rfl H1.out.2.2 Tryd.sizeNode (by simp) (by simp [Value.oneCell']) ?_)
    intro w9 hrow2 hg9 hz9
    have hrow := hrow2.out
    rw [splice_full (by rfl)] at hrow
    have hin9 := H1.out.1.same (ok' := fun b => w.heap.size ≤ b ∧ b < w9.heap.size) (fun b hb => hg9.block b (by have := hb.2; omega) (fun e => by have := Option.some.inj e; have := hb.1; omega)) (fun b hb => ⟨by have := hb.1; omega, by have := hb.2; have := hg9.size; omega⟩)
    have hb9 := below_grew H1.out.2.1 hg9 (Nat.le_refl _) (fun q hq => by rw [← Option.some.inj hq]; omega)
    have HF := hide (And.intro hrow (And.intro hin9 hb9))
    clear hrow hrow2 hg9 hz9
    go_wp2_with fail
    refine bodyPost_ret (results_cell_row rfl _ _ (w.heap.size + 1) _ _ (0, 0) _ rfl HF.out.1 Tryd.underlying27 rfl Tryd.sizeNode) rfl ?_
    have hRe : R = T.seq [] := by rw [HR.out]; simp [T.exp, TL.expRep]
    rw [hRe]
    exact ⟨B, c2, rfl, HF.out.2.1, HF.out.2.2⟩
  have gz : (mx == 0) = false := beq_false_of_ne hz
  have hN := HN.out hz
  obtain ⟨b, o, B, c', rfl, hbk, hcs, hsub⟩ := TL.In.at_ (T.In_iff.1 HIN.out) (show [t0][0]? = some t0 from rfl)
  simp only [Nat.zero_mul, Nat.add_zero] at hcs
  obtain ⟨n0, n1, n2, n3, n4, n5, n6, n7, n8, n9⟩ := (hcs.same (same_of_below H0.out.1) hbk).node
  have hsub1 := hsub.same (ok' := (· < W0.heap.size)) (same_of_below H0.out.1) (fun b hb => by have := H0.out.1.size; omega)
  have HC := hide (HIH.out hz B c' W0 hsub1)
  simp only [Hd.cells] at HC
  clear hcs hsub hsub1
  have hRe : R = if (m : Int) = 0 ∧ (mx = 1 ∨ mx = -1) then .mk ⟨8, s0, s1, s2, s3, num, m, mx, bare⟩ [t0.exp] else T.seq (repList ⟨8, s0, s1, s2, s3, num, m, mx, bare⟩ t0.exp) := by rw [HR.out]; simp only [T.exp, TL.expRep, if_true]; rw [if_neg hz]
  rw [← HR.out] at hN
  have HRE := hide (And.intro hRe hN)
  clear hRe hN
  go_wp2_with fail
  refine HC.out.mono ?_
  rintro e w2 ⟨B2, c2, he, hin2, hb2⟩
  simp only [Hd.cells] at he
  subst he
  clear n0 n1 n2 n3 n4 n5 n6 n7 n8 n9 HC c0
  generalize t0.exp = x at *
  go_upto_region 4 with fail
  have hal := (Below.refl w2.heap.size w2).alloc (Nat.le_refl _) (.cells #[.int .i64 x.hd.kind, .int .u64 x.hd.s0, .int .u64 x.hd.s1, .int .u64 x.hd.s2, .int .u64 x.hd.s3, .slice B2 x.subs.length c2, .int .i64 x.hd.num, .int .i64 x.hd.min, .int .i64 x.hd.max, .bool x.hd.bare] 27)
  have hw2 := hb2.size
  have hw3 : w2.heap.size < (w2.alloc (.cells #[.int .i64 x.hd.kind, .int .u64 x.hd.s0, .int .u64 x.hd.s1, .int .u64 x.hd.s2, .int .u64 x.hd.s3, .slice B2 x.subs.length c2, .int .i64 x.hd.num, .int .i64 x.hd.min, .int .i64 x.hd.max, .bool x.hd.bare] 27)).heap.size := by simp
  have hX : RepAt w (w2.alloc (.cells #[.int .i64 x.hd.kind, .int .u64 x.hd.s0, .int .u64 x.hd.s1, .int .u64 x.hd.s2, .int .u64 x.hd.s3, .slice B2 x.subs.length c2, .int .i64 x.hd.num, .int .i64 x.hd.min, .int .i64 x.hd.max, .bool x.hd.bare] 27)).heap.size w2.heap.size #[.int .i64 8, .int .u64 s0, .int .u64 s1, .int .u64 s2, .int .u64 s3, .slice (some ⟨b, o, none⟩) 1 c, .int .i64 num, .int .i64 (m : Int), .int .i64 mx, .bool bare] x B2 c2 (.slice none 0 0) [] (w2.alloc (.cells #[.int .i64 x.hd.kind, .int .u64 x.hd.s0, .int .u64 x.hd.s1, .int .u64 x.hd.s2, .int .u64 x.hd.s3, .slice B2 x.subs.length c2, .int .i64 x.hd.num, .int .i64 x.hd.min, .int .i64 x.hd.max, .bool x.hd.bare] 27)) :=
    ⟨GrowR.nil _ _, (fun g hg => by cases hg), (H0.out.1.trans (hb2.mono (by omega))).trans (hal.mono (by omega)), (H0.out.2.1.nxt hb2).nxt hal, (H0.out.2.2.nxt hb2).nxt hal, Blk.new w2 _ _, hin2.same ((same_of_below hal).mono fun b hb => hb.2) (fun b hb => ⟨by have := hb.1; omega, by have := hb.2; omega⟩), hw3, by omega, Nat.le_refl _⟩
  have HX := hide hX
  clear hX hal hin2 hb2 H0
  generalize (w2.alloc (.cells #[.int .i64 x.hd.kind, .int .u64 x.hd.s0, .int .u64 x.hd.s1, .int .u64 x.hd.s2, .int .u64 x.hd.s3, .slice B2 x.subs.length c2, .int .i64 x.hd.num, .int .i64 x.hd.min, .int .i64 x.hd.max, .bool x.hd.bare] 27)) = W2 at *
  generalize w2.heap.size = gx at *
  have c0 := HX.out.bt.cell
  go_cut [28] (fun z wx => z = .bool (decide ((m : Int) = 0 ∧ (mx = 1 ∨ mx = -1))) ∧ wx = W2)
  case first =>
    by_cases a1 : (m : Int) = 0
    case neg =>
      have e1 : ((m : Int) == 0) = false := beq_false_of_ne a1
      have HA := hide a1
      clear a1
      go_wp2_with fail
      go_meet
      case rel => exact ⟨by rw [decide_eq_false (fun h => HA.out h.1)], rfl⟩
    have e1 : ((m : Int) == 0) = true := beq_iff_eq.2 a1
    by_cases a2 : mx = 1
    case pos =>
      have e2 : (mx == 1) = true := beq_iff_eq.2 a2
      have HA := hide (And.intro a1 a2)
      clear a1 a2
      go_wp2_with fail
      go_meet
      case rel => exact ⟨by rw [decide_eq_true ⟨HA.out.1, .inl HA.out.2⟩], rfl⟩
    have e2 : (mx == 1) = false := beq_false_of_ne a2
    by_cases a3 : mx = -1
    case pos =>
      have e3 : (mx == -1) = true := beq_iff_eq.2 a3
      have HA := hide (And.intro a1 a3)
      clear a1 a2 a3
      go_wp2_with fail
      go_meet
      case rel => exact ⟨by rw [decide_eq_true ⟨HA.out.1, .inr HA.out.2⟩], rfl⟩
    have e3 : (mx == -1) = false := beq_false_of_ne a3
    have HA := hide (And.intro a1 (And.intro a2 a3))
    clear a1 a2 a3
    go_wp2_with fail
    go_meet
    case rel => exact ⟨by rw [decide_eq_false (fun h => h.2.elim HA.out.2.1 HA.out.2.2)], rfl⟩
  case rest =>
  obtain ⟨rfl, hwc⟩ := hcut
  replace hwc := hwc.symm
  subst hwc
  by_cases hq : (m : Int) = 0 ∧ (mx = 1 ∨ mx = -1)
  case pos =>
    have gq : decide ((m : Int) = 0 ∧ (mx = 1 ∨ mx = -1)) = true := decide_eq_true hq
    have HQ := hide hq
    clear hq
    rw [gq]
    clear gq
    have cx := HX.out.bx.cell
    have f0 := HX.out.bt.frozen
    simp only [Hd.cells] at cx
    have hgx := HX.out.gxX
    have hgx2 := HX.out.gx2
    have hXs := HX.out.sz
    have hal := (Below.refl W2.heap.size W2).alloc (Nat.le_refl _) (.cells #[.int .i64 x.hd.kind, .int .u64 x.hd.s0, .int .u64 x.hd.s1, .int .u64 x.hd.s2, .int .u64 x.hd.s3, .slice B2 x.subs.length c2, .int .i64 x.hd.num, .int .i64 x.hd.min, .int .i64 x.hd.max, .bool x.hd.bare] 27)
    have HX3 := hide (HX.out.next hal)
    have c5 := HX3.out.bt.cell
    have f5 := HX3.out.bt.frozen
    go_upto_region 6 with fail
    clear cx f0 c0 c5 f5
    have hbg := Blk.new W2 27 #[.int .i64 x.hd.kind, .int .u64 x.hd.s0, .int .u64 x.hd.s1, .int .u64 x.hd.s2, .int .u64 x.hd.s3, .slice B2 x.subs.length c2, .int .i64 x.hd.num, .int .i64 x.hd.min, .int .i64 x.hd.max, .bool x.hd.bare]
    have hw4 : W2.heap.size < (W2.alloc (.cells #[.int .i64 x.hd.kind, .int .u64 x.hd.s0, .int .u64 x.hd.s1, .int .u64 x.hd.s2, .int .u64 x.hd.s3, .slice B2 x.subs.length c2, .int .i64 x.hd.num, .int .i64 x.hd.min, .int .i64 x.hd.max, .bool x.hd.bare] 27)).heap.size := by simp
    have hg3 : w.heap.size + 2 ≤ W2.heap.size := by omega
    have H4 := hide hbg
    clear hal hbg HX
    generalize (W2.alloc (.cells #[.int .i64 x.hd.kind, .int .u64 x.hd.s0, .int .u64 x.hd.s1, .int .u64 x.hd.s2, .int .u64 x.hd.s3, .slice B2 x.subs.length c2, .int .i64 x.hd.num, .int .i64 x.hd.min, .int .i64 x.hd.max, .bool x.hd.bare] 27)) = W3 at *
    generalize hg9 : W2.heap.size = g3 at *
    clear hg9
    have hbt2 := heap_setCell_same W3 w.heap.size 5 _ _ (.slice (some ⟨g3, 0, none⟩) 1 1) HX3.out.bt
    have hbr2 := HX3.out.br.far (p := ⟨w.heap.size, 5, none⟩) (by show w.heap.size + 1 ≠ w.heap.size; omega) (.slice (some ⟨g3, 0, none⟩) 1 1)
    have hbg2 := H4.out.far (p := ⟨w.heap.size, 5, none⟩) (by show g3 ≠ w.heap.size; omega) (.slice (some ⟨g3, 0, none⟩) 1 1)
    have hin2 := HX3.out.xin.same (ok' := fun b => w.heap.size + 2 ≤ b ∧ b < W3.heap.size) ((Same.refl _ W3).set (p := ⟨w.heap.size, 5, none⟩) (fun h => by have h1 : w.heap.size + 2 ≤ w.heap.size := h.1; omega) (.slice (some ⟨g3, 0, none⟩) 1 1)) (fun b h => ⟨h.1, by have := h.2; omega⟩)
    have hbel2 := HX3.out.below.setCell (p := ⟨w.heap.size, 5, none⟩) (Nat.le_refl _) (.slice (some ⟨g3, 0, none⟩) 1 1)
    have hsz2 : W3.heap.size ≤ (W3.setCell ⟨w.heap.size, 5, none⟩ (.slice (some ⟨g3, 0, none⟩) 1 1)).heap.size := by simp
    have hT := rep_in (hd := ⟨8, s0, s1, s2, s3, num, m, mx, bare⟩) (ok := fun b => w.heap.size + 2 ≤ b ∧ b < W3.heap.size) (show w.heap.size + 2 ≤ g3 ∧ g3 < W3.heap.size by omega) hbg2 hin2
    have HBT := hide (show Blk _ w.heap.size 27 #[.int .i64 8, .int .u64 s0, .int .u64 s1, .int .u64 s2, .int .u64 s3, .slice (some ⟨g3, 0, none⟩) 1 1, .int .i64 num, .int .i64 (m : Int), .int .i64 mx, .bool bare] from hbt2)
    have H2 := hide (And.intro hT (And.intro hbel2 hbr2))
    clear hbt2 hbr2 hbg2 hin2 hbel2 hT HX3 H4
    generalize (W3.setCell ⟨w.heap.size, 5, none⟩ (.slice (some ⟨g3, 0, none⟩) 1 1)) = W4 at *
    have c4 := HBT.out.cell
    go_wp2_with (refine wpList_store_row rfl _ _ _ rfl (w.heap.size + 1) 0 _ _ _ rfl rfl H2.out.2.2 Tryd.sizeNode (by simp) (by simp [Value.oneCell']) ?_)
    intro w9 hrow2 hg9 hz9
    have hrow := hrow2.out
    rw [splice_full (by rfl)] at hrow
    have hin9 := H2.out.1.same (ok' := fun b => w.heap.size ≤ b ∧ b < w9.heap.size) (fun b hb => hg9.block b (by have := hb.2; omega) (fun e => by have := Option.some.inj e; have := hb.1; omega)) (fun b hb => ⟨by have := hb.1; omega, by have := hb.2; have := hg9.size; omega⟩)
    have hb9 := below_grew H2.out.2.1 hg9 (Nat.le_refl _) (fun q hq => by rw [← Option.some.inj hq]; omega)
    have HF := hide (And.intro hrow (And.intro hin9 hb9))
    clear hrow hrow2 hg9 hz9
    go_wp2_with fail
    refine bodyPost_ret (results_cell_row rfl _ _ (w.heap.size + 1) _ _ (0, 0) _ rfl HF.out.1 Tryd.underlying27 rfl Tryd.sizeNode) rfl ?_
    have hRe := HRE.out.1
    rw [if_pos HQ.out] at hRe
    rw [hRe]
    exact ⟨some ⟨g3, 0, none⟩, 1, rfl, HF.out.2.1, HF.out.2.2⟩
  have gq : decide ((m : Int) = 0 ∧ (mx = 1 ∨ mx = -1)) = false := decide_eq_false hq
  have hRe := HRE.out.1
  rw [if_neg hq] at hRe
  have HRF := hide (And.intro hRe HRE.out.2)
  clear hq hRe
  rw [gq]
  clear gq HRE
  have hgx := HX.out.gxX
  have hgx2 := HX.out.gx2
  have hXs := HX.out.sz
  obtain ⟨X, hX9⟩ : ∃ X, X = W2.heap.size := ⟨_, rfl⟩
  rw [← hX9] at HX hgx
  clear hXs hX9
  go_wp2_with fail
  clear c0
  go_loopw [4, 35] (fun v iv wr => ∃ k : Nat, iv = .int .i64 k ∧ k ≤ m ∧ RepAt w X gx #[.int .i64 8, .int .u64 s0, .int .u64 s1, .int .u64 s2, .int .u64 s3, .slice (some ⟨b, o, none⟩) 1 c, .int .i64 num, .int .i64 (m : Int), .int .i64 mx, .bool bare] x B2 c2 v (List.replicate k x) wr) (fun _ iv _ => m - (intOf iv).toNat)
  case atStart => exact ⟨0, rfl, by omega, HX.out⟩
  case round =>
    clear HX
    obtain ⟨k, rfl, hk, hX⟩ := hrel
    have HX := hide hX
    have hXs := hX.sz
    clear hX
    by_cases hlt : k < m
    case neg =>
      have g1 : decide ((k : Int) < (m : Int)) = false := decide_eq_false (by omega)
      obtain rfl : k = m := by omega
      have c0 := HX.out.bt.cell
      go_upto_region 12 with fail
      rename World => W3
      obtain ⟨b0, hb0⟩ : ∃ b0, b0 = (bare || decide (0 < (k : Int))) := ⟨_, rfl⟩
      have HB0 := hide hb0
      go_cut [5] (fun z wx => z = .bool b0 ∧ wx = W3)
      case first =>
        clear hb0
        cases bare with
        | true =>
          go_wp2_with fail
          go_meet
          case rel => exact ⟨by rw [HB0.out]; rfl, rfl⟩
        | false =>
          by_cases a1 : (k : Int) > 0
          · have e1 : decide ((k : Int) > 0) = true := decide_eq_true a1
            go_wp2_with fail
            go_meet
            case rel => exact ⟨by rw [HB0.out]; simp <;> omega, rfl⟩
          · have e1 : decide ((k : Int) > 0) = false := decide_eq_false a1
            go_wp2_with fail
            go_meet
            case rel => exact ⟨by rw [HB0.out]; simp <;> omega, rfl⟩
      case rest =>
      obtain ⟨rfl, hwc⟩ := hcut
      replace hwc := hwc.symm
      subst hwc
      clear hb0
      go_wp2_with fail
      clear c0 g1
      go_loopw [4, 5, 6] (fun v bv nv wr => ∃ d : Nat, nv = .int .i64 ((k : Int) + (d : Int)) ∧ ((k : Int) + (d : Int) ≤ mx ∨ d = 0) ∧ bv = .bool (if d = 0 then b0 else true) ∧ RepAt w X gx #[.int .i64 8, .int .u64 s0, .int .u64 s1, .int .u64 s2, .int .u64 s3, .slice (some ⟨b, o, none⟩) 1 c, .int .i64 num, .int .i64 (k : Int), .int .i64 mx, .bool bare] x B2 c2 v (List.replicate k x ++ optList x d b0) wr) (fun _ _ nv _ => (mx - intOf nv).toNat)
      case atStart => exact ⟨0, by simp, .inr rfl, rfl, by simpa [optList] using HX.out⟩
      case round =>
        clear HX hXs
        obtain ⟨d, rfl, hd, rfl, hX⟩ := hrel
        have HX := hide hX
        have hXs := hX.sz
        clear hX
        have hmx := HMX.out
        have c0 := HX.out.bt.cell
        by_cases hlt2 : (k : Int) + (d : Int) < mx
        case neg =>
          have g2 : decide ((k : Int) + (d : Int) < mx) = false := decide_eq_false hlt2
          by_cases h1 : mx = -1
          case neg =>
            have g3 : (mx == -1) = false := beq_false_of_ne h1
            have hL : List.replicate k x ++ optList x d b0 = repList ⟨8, s0, s1, s2, s3, num, k, mx, bare⟩ x := by
              unfold repList
              simp only
              rw [if_neg h1, List.append_nil, Int.toNat_natCast, ← HB0.out, show (mx - (k : Int)).toNat = d by omega]
            rw [hL] at HX
            clear hL h1 hd hmx
            obtain ⟨A9, c9, hv9, hin9⟩ := HX.out.grow.in_
            subst hv9
            have hn9 := HRF.out.2
            rw [HRF.out.1] at hn9
            have hsn := seq_nodes (repList ⟨8, s0, s1, s2, s3, num, k, mx, bare⟩ x)
            have HS := hide (seq_any (repList ⟨8, s0, s1, s2, s3, num, k, mx, bare⟩ x) A9 c9 wr (by omega) (hin9.same (Same.refl _ _) (fun b hb => hb.2)))
            have hsz9 := HX.out.sz
            have H1 := hide (And.intro HX.out.below HX.out.br)
            have HRG := hide HRF.out.1
            clear hin9 hn9 hsn HX
            generalize T.seq (repList ⟨8, s0, s1, s2, s3, num, k, mx, bare⟩ x) = S9 at *
            generalize (repList ⟨8, s0, s1, s2, s3, num, k, mx, bare⟩ x) = L9 at *
            go_wp2_with fail
            refine HS.out.mono ?_
            rintro e w7 hfr
            obtain ⟨B7, c7, he, hin7, hb7⟩ := hfr.newTree
            simp only [Hd.cells] at he
            subst he
            have hw7 := hb7.size
            have H2 := hide (And.intro hin7 (And.intro (H1.out.1.trans (hb7.mono (by omega))) (H1.out.2.nxt hb7)))
            clear hin7 hb7 hfr HS H1
            go_wp2_with (refine wpList_store_row rfl _ _ _ rfl (w.heap.size + 1) 0 _ _ _ rfl rfl H2.out.2.2 Tryd.sizeNode (by simp) (by simp [Value.oneCell']) ?_)
            intro w9 hrow2 hg9 hz9
            have hrow := hrow2.out
            rw [splice_full (by rfl)] at hrow
            have hin9 := H2.out.1.same (ok' := fun b => w.heap.size ≤ b ∧ b < w9.heap.size) (fun b hb => hg9.block b (by have := hb.2; omega) (fun e => by have := Option.some.inj e; have := hb.1; omega)) (fun b hb => ⟨by have := hb.1; omega, by have := hb.2; have := hg9.size; omega⟩)
            have hb9 := below_grew H2.out.2.1 hg9 (Nat.le_refl _) (fun q hq => by rw [← Option.some.inj hq]; omega)
            have HF := hide (And.intro hrow (And.intro hin9 hb9))
            clear hrow hrow2 hg9 hz9
            go_wp2_with fail
            refine bodyPost_ret (results_cell_row rfl _ _ (w.heap.size + 1) _ _ (0, 0) _ rfl HF.out.1 Tryd.underlying27 rfl Tryd.sizeNode) rfl ?_
            rw [HRG.out]
            exact ⟨B7, c7, rfl, HF.out.2.1, HF.out.2.2⟩
          have g3 : (mx == -1) = true := beq_iff_eq.2 h1
          obtain rfl : d = 0 := by omega
          have hL : List.replicate k x ++ optList x 0 b0 ++ [starOf x] = repList ⟨8, s0, s1, s2, s3, num, k, mx, bare⟩ x := by
            unfold repList
            simp only
            rw [if_pos h1, Int.toNat_natCast, show (mx - (k : Int)).toNat = 0 by omega]
            rfl
          have HL := hide hL
          have HH1 := hide h1
          clear hL h1 hd hmx
          have cx := HX.out.bx.cell
          simp only [Hd.cells] at cx
          have hal := (Below.refl wr.heap.size wr).alloc (Nat.le_refl _) (.cells #[.int .i64 x.hd.kind, .int .u64 x.hd.s0, .int .u64 x.hd.s1, .int .u64 x.hd.s2, .int .u64 x.hd.s3, .slice B2 x.subs.length c2, .int .i64 x.hd.num, .int .i64 x.hd.min, .int .i64 x.hd.max, .bool x.hd.bare] 27)
          have hal2 := hal.alloc (by simp) (.cells #[.int .i64 8, .int .u64 0, .int .u64 0, .int .u64 0, .int .u64 0, .slice (some ⟨wr.heap.size, 0, none⟩) 1 1, .int .i64 0, .int .i64 0, .int .i64 (-1), .bool true] 27)
          have HX1 := hide (HX.out.next hal)
          have HX2 := hide (HX.out.next hal2)
          have hw1 : wr.heap.size + 1 < ((wr.alloc (.cells #[.int .i64 x.hd.kind, .int .u64 x.hd.s0, .int .u64 x.hd.s1, .int .u64 x.hd.s2, .int .u64 x.hd.s3, .slice B2 x.subs.length c2, .int .i64 x.hd.num, .int .i64 x.hd.min, .int .i64 x.hd.max, .bool x.hd.bare] 27)).alloc (.cells #[.int .i64 8, .int .u64 0, .int .u64 0, .int .u64 0, .int .u64 0, .slice (some ⟨wr.heap.size, 0, none⟩) 1 1, .int .i64 0, .int .i64 0, .int .i64 (-1), .bool true] 27)).heap.size := by simp
          have hbg := (Blk.new wr 27 #[.int .i64 x.hd.kind, .int .u64 x.hd.s0, .int .u64 x.hd.s1, .int .u64 x.hd.s2, .int .u64 x.hd.s3, .slice B2 x.subs.length c2, .int .i64 x.hd.num, .int .i64 x.hd.min, .int .i64 x.hd.max, .bool x.hd.bare]).alloc (.cells #[.int .i64 8, .int .u64 0, .int .u64 0, .int .u64 0, .int .u64 0, .slice (some ⟨wr.heap.size, 0, none⟩) 1 1, .int .i64 0, .int .i64 0, .int .i64 (-1), .bool true] 27)
          have hxi := HX2.out.xin.same (ok' := fun b => w.heap.size + 2 ≤ b ∧ b < ((wr.alloc (.cells #[.int .i64 x.hd.kind, .int .u64 x.hd.s0, .int .u64 x.hd.s1, .int .u64 x.hd.s2, .int .u64 x.hd.s3, .slice B2 x.subs.length c2, .int .i64 x.hd.num, .int .i64 x.hd.min, .int .i64 x.hd.max, .bool x.hd.bare] 27)).alloc (.cells #[.int .i64 8, .int .u64 0, .int .u64 0, .int .u64 0, .int .u64 0, .slice (some ⟨wr.heap.size, 0, none⟩) 1 1, .int .i64 0, .int .i64 0, .int .i64 (-1), .bool true] 27)).heap.size ∧ some b ≠ u4.ownBlock) (Same.refl _ _) (fun b hb => ⟨hb.1, by have := hb.2; omega, fun e => by have := HX2.out.own b e.symm; have := hb.2; omega⟩)
          have hin3 := hide (rep_in (hd := ⟨8, 0, 0, 0, 0, 0, 0, -1, true⟩) (ok := fun b => w.heap.size + 2 ≤ b ∧ b < ((wr.alloc (.cells #[.int .i64 x.hd.kind, .int .u64 x.hd.s0, .int .u64 x.hd.s1, .int .u64 x.hd.s2, .int .u64 x.hd.s3, .slice B2 x.subs.length c2, .int .i64 x.hd.num, .int .i64 x.hd.min, .int .i64 x.hd.max, .bool x.hd.bare] 27)).alloc (.cells #[.int .i64 8, .int .u64 0, .int .u64 0, .int .u64 0, .int .u64 0, .slice (some ⟨wr.heap.size, 0, none⟩) 1 1, .int .i64 0, .int .i64 0, .int .i64 (-1), .bool true] 27)).heap.size ∧ some b ≠ u4.ownBlock) ⟨by omega, by omega, fun e => by have := (HX.out.grow.lt wr.heap.size e.symm).2; omega⟩ hbg hxi)
          have hbn := Blk.new (wr.alloc (.cells #[.int .i64 x.hd.kind, .int .u64 x.hd.s0, .int .u64 x.hd.s1, .int .u64 x.hd.s2, .int .u64 x.hd.s3, .slice B2 x.subs.length c2, .int .i64 x.hd.num, .int .i64 x.hd.min, .int .i64 x.hd.max, .bool x.hd.bare] 27)) 27 #[.int .i64 8, .int .u64 0, .int .u64 0, .int .u64 0, .int .u64 0, .slice (some ⟨wr.heap.size, 0, none⟩) 1 1, .int .i64 0, .int .i64 0, .int .i64 (-1), .bool true]
          rw [World.size_alloc] at hbn
          have hbn2 := hide hbn
          have hln : (List.replicate k x ++ optList x 0 b0).length < 1000000 := by rw [List.length_append, List.length_replicate, optList_len]; omega
          clear hal hal2 hbg hxi hbn
          go_wp2_with (at_builtin; refine wpList_append_nodeR rfl _ _ rfl (w.heap.size + 2) _ (List.replicate k x ++ optList x 0 b0) rfl HX2.out.grow (.mk ⟨8, 0, 0, 0, 0, 0, 0, -1, true⟩ [x]) (some ⟨wr.heap.size, 0, none⟩) 1 (wr.heap.size + 1) 1 rfl hbn2.out hin3.out hln (by simp; omega) ?_)
          intro v' w5 hgr5 hg5 hat5
          have HX7 := hide (HX2.out.push (by rw [List.append_assoc]; exact hgr5) hg5 (by rcases hat5 with e | e; exact .inl e; exact .inr fun g hg => by rw [e] at hg; have := Option.some.inj hg; omega))
          clear hgr5 hg5 hat5 hin3 cx HX1 HX2 hbn2
          have HX8 := hide (show RepAt w X gx _ x B2 c2 v' (repList ⟨8, s0, s1, s2, s3, num, k, mx, bare⟩ x) w5 from by rw [← HL.out]; exact HX7.out)
          clear HX7 HL HX
          obtain ⟨A9, c9, hv9, hin9⟩ := HX8.out.grow.in_
          subst hv9
          have hn9 := HRF.out.2
          rw [HRF.out.1] at hn9
          have hsn := seq_nodes (repList ⟨8, s0, s1, s2, s3, num, k, mx, bare⟩ x)
          have HS := hide (seq_any (repList ⟨8, s0, s1, s2, s3, num, k, mx, bare⟩ x) A9 c9 w5 (by omega) (hin9.same (Same.refl _ _) (fun b hb => hb.2)))
          have hsz9 := HX8.out.sz
          have H1 := hide (And.intro HX8.out.below HX8.out.br)
          have HRG := hide HRF.out.1
          clear hin9 hn9 hsn HX8
          generalize T.seq (repList ⟨8, s0, s1, s2, s3, num, k, mx, bare⟩ x) = S9 at *
          generalize (repList ⟨8, s0, s1, s2, s3, num, k, mx, bare⟩ x) = L9 at *
          go_wp2_with fail
          refine HS.out.mono ?_
          rintro e w7 hfr
          obtain ⟨B7, c7, he, hin7, hb7⟩ := hfr.newTree
          simp only [Hd.cells] at he
          subst he
          have hw7 := hb7.size
          have H2 := hide (And.intro hin7 (And.intro (H1.out.1.trans (hb7.mono (by omega))) (H1.out.2.nxt hb7)))
          clear hin7 hb7 hfr HS H1
          go_wp2_with (refine wpList_store_row rfl _ _ _ rfl (w.heap.size + 1) 0 _ _ _ rfl rfl H2.out.2.2 Tryd.sizeNode (by simp) (by simp [Value.oneCell']) ?_)
          intro w9 hrow2 hg9 hz9
          have hrow := hrow2.out
          rw [splice_full (by rfl)] at hrow
          have hin9 := H2.out.1.same (ok' := fun b => w.heap.size ≤ b ∧ b < w9.heap.size) (fun b hb => hg9.block b (by have := hb.2; omega) (fun e => by have := Option.some.inj e; have := hb.1; omega)) (fun b hb => ⟨by have := hb.1; omega, by have := hb.2; have := hg9.size; omega⟩)
          have hb9 := below_grew H2.out.2.1 hg9 (Nat.le_refl _) (fun q hq => by rw [← Option.some.inj hq]; omega)
          have HF := hide (And.intro hrow (And.intro hin9 hb9))
          clear hrow hrow2 hg9 hz9
          go_wp2_with fail
          refine bodyPost_ret (results_cell_row rfl _ _ (w.heap.size + 1) _ _ (0, 0) _ rfl HF.out.1 Tryd.underlying27 rfl Tryd.sizeNode) rfl ?_
          rw [HRG.out]
          exact ⟨B7, c7, rfl, HF.out.2.1, HF.out.2.2⟩
        have g2 : decide ((k : Int) + (d : Int) < mx) = true := decide_eq_true hlt2
        have hd255 : d ≤ 255 := by omega
        have HLT2 := hide hlt2
        clear hd hmx
        obtain ⟨b9, hb9⟩ : ∃ b9, b9 = (if d = 0 then b0 else true) := ⟨_, rfl⟩
        rw [← hb9]
        have HB9 := hide hb9
        clear hb9
        have cx := HX.out.bx.cell
        simp only [Hd.cells] at cx
        have hal := (Below.refl wr.heap.size wr).alloc (Nat.le_refl _) (.cells #[.int .i64 x.hd.kind, .int .u64 x.hd.s0, .int .u64 x.hd.s1, .int .u64 x.hd.s2, .int .u64 x.hd.s3, .slice B2 x.subs.length c2, .int .i64 x.hd.num, .int .i64 x.hd.min, .int .i64 x.hd.max, .bool x.hd.bare] 27)
        have hal2 := hal.alloc (by simp) (.cells #[.int .i64 8, .int .u64 0, .int .u64 0, .int .u64 0, .int .u64 0, .slice (some ⟨wr.heap.size, 0, none⟩) 1 1, .int .i64 0, .int .i64 0, .int .i64 1, .bool b9] 27)
        have HX1 := hide (HX.out.next hal)
        have HX2 := hide (HX.out.next hal2)
        have hw1 : wr.heap.size + 1 < ((wr.alloc (.cells #[.int .i64 x.hd.kind, .int .u64 x.hd.s0, .int .u64 x.hd.s1, .int .u64 x.hd.s2, .int .u64 x.hd.s3, .slice B2 x.subs.length c2, .int .i64 x.hd.num, .int .i64 x.hd.min, .int .i64 x.hd.max, .bool x.hd.bare] 27)).alloc (.cells #[.int .i64 8, .int .u64 0, .int .u64 0, .int .u64 0, .int .u64 0, .slice (some ⟨wr.heap.size, 0, none⟩) 1 1, .int .i64 0, .int .i64 0, .int .i64 1, .bool b9] 27)).heap.size := by simp
        have hbg := (Blk.new wr 27 #[.int .i64 x.hd.kind, .int .u64 x.hd.s0, .int .u64 x.hd.s1, .int .u64 x.hd.s2, .int .u64 x.hd.s3, .slice B2 x.subs.length c2, .int .i64 x.hd.num, .int .i64 x.hd.min, .int .i64 x.hd.max, .bool x.hd.bare]).alloc (.cells #[.int .i64 8, .int .u64 0, .int .u64 0, .int .u64 0, .int .u64 0, .slice (some ⟨wr.heap.size, 0, none⟩) 1 1, .int .i64 0, .int .i64 0, .int .i64 1, .bool b9] 27)
        have hxi := HX2.out.xin.same (ok' := fun b => w.heap.size + 2 ≤ b ∧ b < ((wr.alloc (.cells #[.int .i64 x.hd.kind, .int .u64 x.hd.s0, .int .u64 x.hd.s1, .int .u64 x.hd.s2, .int .u64 x.hd.s3, .slice B2 x.subs.length c2, .int .i64 x.hd.num, .int .i64 x.hd.min, .int .i64 x.hd.max, .bool x.hd.bare] 27)).alloc (.cells #[.int .i64 8, .int .u64 0, .int .u64 0, .int .u64 0, .int .u64 0, .slice (some ⟨wr.heap.size, 0, none⟩) 1 1, .int .i64 0, .int .i64 0, .int .i64 1, .bool b9] 27)).heap.size ∧ some b ≠ u4.ownBlock) (Same.refl _ _) (fun b hb => ⟨hb.1, by have := hb.2; omega, fun e => by have := HX2.out.own b e.symm; have := hb.2; omega⟩)
        have hin3 := hide (rep_in (hd := ⟨8, 0, 0, 0, 0, 0, 0, 1, b9⟩) (ok := fun b => w.heap.size + 2 ≤ b ∧ b < ((wr.alloc (.cells #[.int .i64 x.hd.kind, .int .u64 x.hd.s0, .int .u64 x.hd.s1, .int .u64 x.hd.s2, .int .u64 x.hd.s3, .slice B2 x.subs.length c2, .int .i64 x.hd.num, .int .i64 x.hd.min, .int .i64 x.hd.max, .bool x.hd.bare] 27)).alloc (.cells #[.int .i64 8, .int .u64 0, .int .u64 0, .int .u64 0, .int .u64 0, .slice (some ⟨wr.heap.size, 0, none⟩) 1 1, .int .i64 0, .int .i64 0, .int .i64 1, .bool b9] 27)).heap.size ∧ some b ≠ u4.ownBlock) ⟨by omega, by omega, fun e => by have := (HX.out.grow.lt wr.heap.size e.symm).2; omega⟩ hbg hxi)
        have hbn := Blk.new (wr.alloc (.cells #[.int .i64 x.hd.kind, .int .u64 x.hd.s0, .int .u64 x.hd.s1, .int .u64 x.hd.s2, .int .u64 x.hd.s3, .slice B2 x.subs.length c2, .int .i64 x.hd.num, .int .i64 x.hd.min, .int .i64 x.hd.max, .bool x.hd.bare] 27)) 27 #[.int .i64 8, .int .u64 0, .int .u64 0, .int .u64 0, .int .u64 0, .slice (some ⟨wr.heap.size, 0, none⟩) 1 1, .int .i64 0, .int .i64 0, .int .i64 1, .bool b9]
        rw [World.size_alloc] at hbn
        have hbn2 := hide hbn
        have hln : (List.replicate k x ++ optList x d b0).length < 1000000 := by rw [List.length_append, List.length_replicate, optList_len]; omega
        clear hal hal2 hbg hxi hbn
        go_wp2_with (at_builtin; refine wpList_append_nodeR rfl _ _ rfl (w.heap.size + 2) _ (List.replicate k x ++ optList x d b0) rfl HX2.out.grow (.mk ⟨8, 0, 0, 0, 0, 0, 0, 1, b9⟩ [x]) (some ⟨wr.heap.size, 0, none⟩) 1 (wr.heap.size + 1) 1 rfl hbn2.out hin3.out hln (by simp; omega) ?_)
        intro v' w5 hgr5 hg5 hat5
        have HX7 := hide (HX2.out.push (by rw [List.append_assoc]; exact hgr5) hg5 (by rcases hat5 with e | e; exact .inl e; exact .inr fun g hg => by rw [e] at hg; have := Option.some.inj hg; omega))
        clear hgr5 hg5 hat5 hin3 cx HX1 HX2 hbn2
        have HX8 := hide (show RepAt w X gx _ x B2 c2 v' (List.replicate k x ++ optList x (d + 1) b0) w5 from by rw [optList_snoc, ← HB9.out, ← List.append_assoc]; exact HX7.out)
        clear HX7 HX
        go_wp2_with fail
        go_roundw
        case rel => exact ⟨d + 1, by go_num, .inl (by have := HLT2.out; omega), rfl, HX8.out⟩
        case measure => have := HLT2.out; simp [intOf]; omega
    have g1 : decide ((k : Int) < (m : Int)) = true := decide_eq_true (by omega)
    have cx := HX.out.bx.cell
    simp only [Hd.cells] at cx
    have hal := (Below.refl wr.heap.size wr).alloc (Nat.le_refl _) (.cells #[.int .i64 x.hd.kind, .int .u64 x.hd.s0, .int .u64 x.hd.s1, .int .u64 x.hd.s2, .int .u64 x.hd.s3, .slice B2 x.subs.length c2, .int .i64 x.hd.num, .int .i64 x.hd.min, .int .i64 x.hd.max, .bool x.hd.bare] 27)
    have HX1 := hide (HX.out.next hal)
    have hw1 : wr.heap.size < (wr.alloc (.cells #[.int .i64 x.hd.kind, .int .u64 x.hd.s0, .int .u64 x.hd.s1, .int .u64 x.hd.s2, .int .u64 x.hd.s3, .slice B2 x.subs.length c2, .int .i64 x.hd.num, .int .i64 x.hd.min, .int .i64 x.hd.max, .bool x.hd.bare] 27)).heap.size := by simp
    have hin3 := hide (HX1.out.xin.same (ok' := fun b => w.heap.size + 2 ≤ b ∧ b < (wr.alloc (.cells #[.int .i64 x.hd.kind, .int .u64 x.hd.s0, .int .u64 x.hd.s1, .int .u64 x.hd.s2, .int .u64 x.hd.s3, .slice B2 x.subs.length c2, .int .i64 x.hd.num, .int .i64 x.hd.min, .int .i64 x.hd.max, .bool x.hd.bare] 27)).heap.size ∧ some b ≠ u4.ownBlock) (Same.refl _ _) (fun b hb => ⟨hb.1, by have := hb.2; omega, fun e => by have := HX1.out.own b e.symm; have := hb.2; omega⟩))
    have hln : (List.replicate k x).length < 1000000 := by rw [List.length_replicate]; omega
    clear hal
    go_wp2_with (at_builtin; refine wpList_append_nodeR rfl _ _ rfl (w.heap.size + 2) _ (List.replicate k x) rfl HX1.out.grow x B2 c2 wr.heap.size 1 rfl (Blk.new _ _ _) hin3.out hln (by simp; omega) ?_)
    intro v' w5 hgr5 hg5 hat5
    have HX5 := hide (HX1.out.push hgr5 hg5 (by rcases hat5 with e | e; exact .inl e; exact .inr fun g hg => by rw [e] at hg; have := Option.some.inj hg; omega))
    clear hgr5 hg5 hat5 hin3 cx HX1
    go_wp2_with fail
    go_roundw
    case rel => exact ⟨k + 1, by go_num, hlt, by rw [List.replicate_succ']; exact HX5.out⟩
    case measure => simp [intOf]; omega
end Go.Proofs.YtbbhobojghmkpaaDoor

/-! ## Expand -/
namespace Go.Proofs.YtbbhobojghmkpaaDoor
open Go.RowKit

theorem TL.reps_append : ∀ a b : List T, TL.reps a → TL.reps b → TL.reps (a ++ b)
  | [], b, _, h => h
  | t :: a, b, h, hb => ⟨h.1, TL.reps_append a b h.2 hb⟩
theorem reps_replicate {x : T} (hx : x.reps) : ∀ n, TL.reps (List.replicate n x)
  | 0 => trivial
  | n + 1 => ⟨hx, reps_replicate hx n⟩
theorem reps_opt {x : T} (hx : x.reps) : ∀ n b, TL.reps (optList x n b)
  | 0, _ => trivial
  | n + 1, b => ⟨⟨fun _ => by simp, hx, trivial⟩, reps_opt hx n true⟩
theorem reps_seq {l : List T} (h : TL.reps l) : (T.seq l).reps := by
  cases l with
  | nil => exact ⟨(fun h => by cases h), trivial⟩
  | cons a r =>
    cases r with
    | nil => exact h.1
    | cons b r => exact ⟨(fun h => by cases h), h⟩
mutual
theorem T.exp_reps : ∀ t : T, t.form = true → t.exp.reps
  | .mk h l, hf => by
    by_cases h8 : h.kind = 8
    · obtain ⟨t, rfl, hft⟩ := rep_sub hf h8
      have ih := T.exp_reps t hft
      simp only [T.exp, if_pos h8, TL.expRep]
      by_cases hz : h.max = 0
      · rw [if_pos hz]
        exact ⟨(fun h => by cases h), trivial⟩
      · rw [if_neg hz]
        by_cases hq : h.min = 0 ∧ (h.max = 1 ∨ h.max = -1)
        · rw [if_pos hq]
          exact ⟨fun _ => by simp, ih, trivial⟩
        · rw [if_neg hq]
          refine reps_seq (TL.reps_append _ _ (TL.reps_append _ _ (reps_replicate ih _) (reps_opt ih _ _)) ?_)
          split
          · exact ⟨⟨fun _ => by simp, ih, trivial⟩, trivial⟩
          · trivial
    · simp only [T.exp, if_neg h8]
      rw [T.form_eq, Bool.and_eq_true] at hf
      exact ⟨fun h => absurd h h8, TL.exp_reps l hf.2⟩
theorem TL.exp_reps : ∀ l : List T, TL.form l = true → TL.reps (TL.exp l)
  | [], _ => trivial
  | t :: l, hf => by
    simp only [TL.form, Bool.and_eq_true] at hf
    exact ⟨T.exp_reps t hf.1, TL.exp_reps l hf.2⟩
end

set_option maxRecDepth 100000 in
set_option maxHeartbeats 2000000 in
theorem expRep_any (s0 s1 s2 s3 num mx : Int) (m : Nat) (bare : Bool) (t0 : T) (hm : m ≤ 255) (hmx : mx = -1 ∨ ((m : Int) ≤ mx ∧ mx ≤ 255)) (hN : mx ≠ 0 → (T.mk ⟨8, s0, s1, s2, s3, num, m, mx, bare⟩ [t0]).exp.nodes ≤ 2000) (ih : mx ≠ 0 → ExpC t0) : ExpC (.mk ⟨8, s0, s1, s2, s3, num, m, mx, bare⟩ [t0]) := by
  intro A c w hin
  have HIN := hide hin
  simp only [T.hd, T.subs, Hd.cells, List.length_cons, List.length_nil]
  have hb2 := ((Below.refl w.heap.size w).alloc (Nat.le_refl _) (.cells #[.int .i64 8, .int .u64 s0, .int .u64 s1, .int .u64 s2, .int .u64 s3, .slice A 1 c, .int .i64 num, .int .i64 (m : Int), .int .i64 mx, .bool bare] 27)).alloc (by simp) (.cells #[.int .i64 0, .int .u64 0, .int .u64 0, .int .u64 0, .int .u64 0, .slice none 0 0, .int .i64 0, .int .i64 0, .int .i64 0, .bool false] 27)
  have hbt := (Blk.new w 27 #[.int .i64 8, .int .u64 s0, .int .u64 s1, .int .u64 s2, .int .u64 s3, .slice A 1 c, .int .i64 num, .int .i64 (m : Int), .int .i64 mx, .bool bare]).alloc (.cells #[.int .i64 0, .int .u64 0, .int .u64 0, .int .u64 0, .int .u64 0, .slice none 0 0, .int .i64 0, .int .i64 0, .int .i64 0, .bool false] 27)
  have hbr := Blk.new (w.alloc (.cells #[.int .i64 8, .int .u64 s0, .int .u64 s1, .int .u64 s2, .int .u64 s3, .slice A 1 c, .int .i64 num, .int .i64 (m : Int), .int .i64 mx, .bool bare] 27)) 27 #[.int .i64 0, .int .u64 0, .int .u64 0, .int .u64 0, .int .u64 0, .slice none 0 0, .int .i64 0, .int .i64 0, .int .i64 0, .bool false]
  rw [World.size_alloc] at hbr
  have hsz : w.heap.size + 1 < ((w.alloc (.cells #[.int .i64 8, .int .u64 s0, .int .u64 s1, .int .u64 s2, .int .u64 s3, .slice A 1 c, .int .i64 num, .int .i64 (m : Int), .int .i64 mx, .bool bare] 27)).alloc (.cells #[.int .i64 0, .int .u64 0, .int .u64 0, .int .u64 0, .int .u64 0, .slice none 0 0, .int .i64 0, .int .i64 0, .int .i64 0, .bool false] 27)).heap.size := by simp
  have hin2 := hin.same (ok' := (· < ((w.alloc (.cells #[.int .i64 8, .int .u64 s0, .int .u64 s1, .int .u64 s2, .int .u64 s3, .slice A 1 c, .int .i64 num, .int .i64 (m : Int), .int .i64 mx, .bool bare] 27)).alloc (.cells #[.int .i64 0, .int .u64 0, .int .u64 0, .int .u64 0, .int .u64 0, .slice none 0 0, .int .i64 0, .int .i64 0, .int .i64 0, .bool false] 27)).heap.size)) (same_of_below hb2) (fun b hb => by omega)
  have HC := hide (expRepeat_any s0 s1 s2 s3 num mx m bare t0 hm hmx hN ih A c _ hin2)
  have H0 := hide (And.intro hb2 (And.intro hbt hbr))
  have c0 := hbt.cell
  clear hb2 hbt hbr hin2 hin hmx hN ih
  obtain ⟨R, hR⟩ : ∃ R, R = (T.mk ⟨8, s0, s1, s2, s3, num, m, mx, bare⟩ [t0]).exp := ⟨_, rfl⟩
  rw [← hR] at HC ⊢
  clear hR
  go_enter Tryd.func111, Tryd.ntmps111
  go_wp2_with fail
  refine HC.out.mono ?_
  rintro e w2 ⟨B, c2, he, hin2, hb2⟩
  simp only [Hd.cells] at he
  subst he
  have hw2 := hb2.size
  have H1 := hide (And.intro hin2 (And.intro (H0.out.1.trans (hb2.mono (by omega))) (H0.out.2.2.nxt hb2)))
  clear hin2 hb2 HC c0
  generalize ((w.alloc (.cells #[.int .i64 8, .int .u64 s0, .int .u64 s1, .int .u64 s2, .int .u64 s3, .slice A 1 c, .int .i64 num, .int .i64 (m : Int), .int .i64 mx, .bool bare] 27)).alloc (.cells #[.int .i64 0, .int .u64 0, .int .u64 0, .int .u64 0, .int .u64 0, .slice none 0 0, .int .i64 0, .int .i64 0, .int .i64 0, .bool false] 27)) = W0 at *
  go_wp2_with (refine wpList_store_row rfl _ _ _ rfl (w.heap.size + 1) 0 _ _ _ rfl rfl H1.out.2.2 Tryd.sizeNode (by simp) (by simp [Value.oneCell']) ?_)
  intro w9 hrow2 hg9 hz9
  have hrow := hrow2.out
  rw [splice_full (by rfl)] at hrow
  have hin9 := H1.out.1.same (ok' := fun b => w.heap.size ≤ b ∧ b < w9.heap.size) (fun b hb => hg9.block b (by have := hb.2; omega) (fun e => by have := Option.some.inj e; have := hb.1; omega)) (fun b hb => ⟨by have := hb.1; omega, by have := hb.2; have := hg9.size; omega⟩)
  have hb9 := below_grew H1.out.2.1 hg9 (Nat.le_refl _) (fun q hq => by rw [← Option.some.inj hq]; omega)
  have HF := hide (And.intro hrow (And.intro hin9 hb9))
  clear hrow hrow2 hg9 hz9 hin9 hb9
  go_wp2_with fail
  refine bodyPost_ret (results_cell_row rfl _ _ (w.heap.size + 1) _ _ (0, 0) _ rfl HF.out.1 Tryd.underlying27 rfl Tryd.sizeNode) rfl ?_
  exact ⟨B, c2, rfl, HF.out.2.1, HF.out.2.2⟩

theorem expanded_any (M : Nat) : ∀ t : T, t.nodes ≤ M → M ≤ 1000000 → t.form = true → t.size ≤ 2000 → ExpC t := by
  induction M with
  | zero => intro t h; have := t.nodes_pos; omega
  | succ M ih =>
    intro t hM hM2 hf hs
    obtain ⟨⟨kind, s0, s1, s2, s3, num, mn, mx, bare⟩, l⟩ := t
    have hlen := TL.length_le l
    simp only [T.nodes] at hM
    by_cases h8 : kind = 8
    · subst h8
      obtain ⟨t, rfl, hft⟩ := rep_sub hf rfl
      have hfm : Hd.formed ⟨8, s0, s1, s2, s3, num, mn, mx, bare⟩ 1 = true := by
        rw [T.form_eq, Bool.and_eq_true] at hf
        exact hf.1
      obtain ⟨b1, b2, b3⟩ := Hd.rep_bd hfm rfl
      simp only at b1 b2 b3
      obtain ⟨m, rfl⟩ : ∃ m : Nat, mn = m := ⟨mn.toNat, by omega⟩
      refine expRep_any s0 s1 s2 s3 num mx m bare t (by omega) b3 (fun hz => ?_) (fun hz => ?_)
      · have := (rep_sub_size hf hs rfl hz).2
        omega
      · exact ih t (by simp only [TL.nodes] at hM; omega) (by omega) hft (rep_sub_size hf hs rfl hz).1
    · have hsub := node_sub_size hf hs h8
      rw [T.form_eq, Bool.and_eq_true] at hf
      exact expNode_any kind s0 s1 s2 s3 num mn mx bare l h8 (by omega) fun t ht => ih t (by have := TL.nodes_mem ht; omega) (by omega) (TL.form_mem hf.2 ht) (hsub t ht)

/-- What Expand answers. -/
def Expanded (t : T) (a : Nat → Addr) (w : World) (e : Ending) (w' : World) : Prop :=
  (∃ g, t.check = some g ∧ e = .returned (.tuple #[.agg #[.int .i64 0, .int .u64 0, .int .u64 0, .int .u64 0, .int .u64 0, .slice none 0 0, .int .i64 0, .int .i64 0, .int .i64 0, .bool false], errV (a g)]) ∧ Below w.heap.size w w') ∨
  (t.check = none ∧ ∃ B c, e = .returned (.tuple #[.agg (t.exp.hd.cells (.slice B t.exp.subs.length c)).toArray, .nilIface]) ∧ T.In w' (fun b => w.heap.size ≤ b ∧ b < w'.heap.size) t.exp B ∧ Below w.heap.size w w')

theorem T.check_none {t : T} (h : t.check = none) : t.form = true ∧ t.size ≤ 2000 := by
  unfold T.check at h
  split at h
  · rename_i hf
    refine ⟨hf, ?_⟩
    split at h
    · cases h
    split at h
    · cases h
    · omega
  · cases h

set_option maxRecDepth 100000 in
set_option maxHeartbeats 2000000 in
theorem expand_any (t : T) (A : Option Addr) (c : Nat) (w : World) (a : Nat → Addr) (hN : t.nodes ≤ 1000000) (hin : T.In w (· < w.heap.size) t A) (he : Sent [0, 1, 2] w a) :
    Calls Tryd.prog 88 #[.agg (t.hd.cells (.slice A t.subs.length c)).toArray] w (Expanded t a w) := by
  have hne := fun y ad => run_neq_iface_nil (P := Tryd.prog) (w := y) 49 (by kernel_rfl) 169 (.pointer (some ad))
  have hnn := fun y => run_neq_nil_nil_at (P := Tryd.prog) (w := y) 49 (by kernel_rfl)
  have HC := hide (fun y (hy : Below w.heap.size w y) => check_any t A c y a hN (hin.same (same_of_below hy) (fun b hb => Nat.lt_of_lt_of_le hb hy.size)) (he.below hy))
  have HIN := hide hin
  have HEX := hide (fun h1 h2 => expanded_any t.nodes t (Nat.le_refl _) hN h1 h2)
  clear hin he
  simp only [Hd.cells] at HC ⊢
  have hb2 := ((Below.refl w.heap.size w).alloc (Nat.le_refl _) (.cells #[.int .i64 t.hd.kind, .int .u64 t.hd.s0, .int .u64 t.hd.s1, .int .u64 t.hd.s2, .int .u64 t.hd.s3, .slice A t.subs.length c, .int .i64 t.hd.num, .int .i64 t.hd.min, .int .i64 t.hd.max, .bool t.hd.bare] 27)).alloc (by simp) (.cells #[.int .i64 0, .int .u64 0, .int .u64 0, .int .u64 0, .int .u64 0, .slice none 0 0, .int .i64 0, .int .i64 0, .int .i64 0, .bool false] 27)
  have hbt := (Blk.new w 27 #[.int .i64 t.hd.kind, .int .u64 t.hd.s0, .int .u64 t.hd.s1, .int .u64 t.hd.s2, .int .u64 t.hd.s3, .slice A t.subs.length c, .int .i64 t.hd.num, .int .i64 t.hd.min, .int .i64 t.hd.max, .bool t.hd.bare]).alloc (.cells #[.int .i64 0, .int .u64 0, .int .u64 0, .int .u64 0, .int .u64 0, .slice none 0 0, .int .i64 0, .int .i64 0, .int .i64 0, .bool false] 27)
  have hbr := Blk.new (w.alloc (.cells #[.int .i64 t.hd.kind, .int .u64 t.hd.s0, .int .u64 t.hd.s1, .int .u64 t.hd.s2, .int .u64 t.hd.s3, .slice A t.subs.length c, .int .i64 t.hd.num, .int .i64 t.hd.min, .int .i64 t.hd.max, .bool t.hd.bare] 27)) 27 #[.int .i64 0, .int .u64 0, .int .u64 0, .int .u64 0, .int .u64 0, .slice none 0 0, .int .i64 0, .int .i64 0, .int .i64 0, .bool false]
  rw [World.size_alloc] at hbr
  have hsz : w.heap.size + 1 < ((w.alloc (.cells #[.int .i64 t.hd.kind, .int .u64 t.hd.s0, .int .u64 t.hd.s1, .int .u64 t.hd.s2, .int .u64 t.hd.s3, .slice A t.subs.length c, .int .i64 t.hd.num, .int .i64 t.hd.min, .int .i64 t.hd.max, .bool t.hd.bare] 27)).alloc (.cells #[.int .i64 0, .int .u64 0, .int .u64 0, .int .u64 0, .int .u64 0, .slice none 0 0, .int .i64 0, .int .i64 0, .int .i64 0, .bool false] 27)).heap.size := by simp
  have H0 := hide (And.intro hb2 (And.intro hbt hbr))
  clear hb2 hbt hbr
  have c0 := H0.out.2.1.cell
  go_enter Tryd.func88, Tryd.ntmps88
  go_wp2_with fail
  generalize ((w.alloc (.cells #[.int .i64 t.hd.kind, .int .u64 t.hd.s0, .int .u64 t.hd.s1, .int .u64 t.hd.s2, .int .u64 t.hd.s3, .slice A t.subs.length c, .int .i64 t.hd.num, .int .i64 t.hd.min, .int .i64 t.hd.max, .bool t.hd.bare] 27)).alloc (.cells #[.int .i64 0, .int .u64 0, .int .u64 0, .int .u64 0, .int .u64 0, .slice none 0 0, .int .i64 0, .int .i64 0, .int .i64 0, .bool false] 27)) = W0 at *
  refine (HC.out _ H0.out.1).mono ?_
  rintro e w2 ⟨rfl, hb2⟩
  have hw2 := hb2.size
  have H1 := hide (And.intro (H0.out.1.trans (hb2.mono (by omega))) (And.intro (H0.out.2.1.nxt hb2) (H0.out.2.2.nxt hb2)))
  clear hb2 HC c0 H0
  cases hck : t.check with
  | some g =>
    have HK := hide hck
    clear hck
    simp only [errOf, errV]
    go_wp2_with (refine wpList_store_row rfl _ _ _ rfl (w.heap.size + 1) 0 _ _ _ rfl rfl H1.out.2.2 Tryd.sizeNode (by simp) (by simp [Value.oneCell']) ?_)
    intro w9 hrow2 hg9 hz9
    have hrow := hrow2.out
    rw [splice_full (by rfl)] at hrow
    have hb9 := below_grew H1.out.1 hg9 (Nat.le_refl _) (fun q hq => by rw [← Option.some.inj hq]; omega)
    have HF := hide hb9
    have c9 := hrow.cell
    clear hrow hrow2 hg9 hz9 hb9
    go_wp2_with fail
    refine bodyPost_ret (v := .tuple #[.agg #[.int .i64 0, .int .u64 0, .int .u64 0, .int .u64 0, .int .u64 0, .slice none 0 0, .int .i64 0, .int .i64 0, .int .i64 0, .bool false], .iface 169 (.pointer (some (a g)))]) (by simp [results, Tryd.results88, go_sem, c9]) rfl ?_
    exact .inl ⟨g, HK.out, rfl, HF.out⟩
  | none =>
    have HK := hide hck
    obtain ⟨hf, hs⟩ := T.check_none hck
    have HE := hide (HEX.out hf hs A c w2 (HIN.out.same (same_of_below H1.out.1) (fun b hb => by omega)))
    clear hck hf hs HEX
    simp only [Hd.cells] at HE
    simp only [errOf]
    have c0 := H1.out.2.1.cell
    go_wp2_with fail
    refine HE.out.mono ?_
    rintro e w3 ⟨B, c2, he, hin3, hb3⟩
    simp only [Hd.cells] at he
    subst he
    have hw3 := hb3.size
    have H2 := hide (And.intro hin3 (And.intro (H1.out.1.trans (hb3.mono (by omega))) (H1.out.2.2.nxt hb3)))
    clear hin3 hb3 HE c0 H1
    go_wp2_with (refine wpList_store_row rfl _ _ _ rfl (w.heap.size + 1) 0 _ _ _ rfl rfl H2.out.2.2 Tryd.sizeNode (by simp) (by simp [Value.oneCell']) ?_)
    intro w9 hrow2 hg9 hz9
    have hrow := hrow2.out
    rw [splice_full (by rfl)] at hrow
    have hin9 := H2.out.1.same (ok' := fun b => w.heap.size ≤ b ∧ b < w9.heap.size) (fun b hb => hg9.block b (by have := hb.2; omega) (fun e => by have := Option.some.inj e; have := hb.1; omega)) (fun b hb => ⟨by have := hb.1; omega, by have := hb.2; have := hg9.size; omega⟩)
    have hb9 := below_grew H2.out.2.1 hg9 (Nat.le_refl _) (fun q hq => by rw [← Option.some.inj hq]; omega)
    have HF := hide (And.intro hin9 hb9)
    have c9 := hrow.cell
    clear hrow hrow2 hg9 hz9 hb9 hin9
    go_wp2_with fail
    refine bodyPost_ret (v := .tuple #[.agg #[.int .i64 t.exp.hd.kind, .int .u64 t.exp.hd.s0, .int .u64 t.exp.hd.s1, .int .u64 t.exp.hd.s2, .int .u64 t.exp.hd.s3, .slice B t.exp.subs.length c2, .int .i64 t.exp.hd.num, .int .i64 t.exp.hd.min, .int .i64 t.exp.hd.max, .bool t.exp.hd.bare], .nilIface]) (by simp [results, Tryd.results88, go_sem, c9]) rfl ?_
    exact .inr ⟨HK.out, B, c2, rfl, HF.out.1, HF.out.2⟩
end Go.Proofs.YtbbhobojghmkpaaDoor
