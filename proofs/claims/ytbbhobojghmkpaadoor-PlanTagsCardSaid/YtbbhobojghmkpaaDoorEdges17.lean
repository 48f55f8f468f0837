/- trawlref17.edges: of a list of ways the edges. -/
import Derived.Test.YtbbhobojghmkpaaDoorRows17
import Derived.Maps.AppendAt
set_option linter.unusedSimpArgs false
set_option linter.unusedVariables false
namespace Go.Proofs.YtbbhobojghmkpaaDoor
open Go.RowKit

theorem Tryd.infoEdge : (Tryd.prog.info? 79).map (fun i => (i.zero, i.size, i.bytes)) = some (some (.agg #[.int .i64 0, .int .i64 0]), 2, 16) := by kernel_rfl
/-- The list v holds the edges l, in memory from block base on. -/
def OwnEd (base : Nat) (w : World) (v : Value) (l : List Ed) : Prop := w.ownsRow base 79 2 v l.length (l.flatMap Ed.cells)
section
variable {base : Nat} {w w' : World} {v : Value} {l : List Ed}
theorem OwnEd.nil (base : Nat) (w : World) : OwnEd base w (.slice none 0 0) [] := World.ownsRow_nil _ _ _ _
theorem OwnEd.same {ok : Nat → Prop} (h : OwnEd base w v l) (hs : Same ok w w') (hk : ∀ g, v.ownBlock = some g → ok g) : OwnEd base w' v l := by
  refine ⟨h.1, ?_⟩
  rcases h.2 with h | ⟨g, cap, cur, e, hb, hg, r⟩
  · exact .inl h
  · exact .inr ⟨g, cap, cur, e, hb, (hs g (hk g (by rw [e]; rfl))).trans hg, r⟩
theorem OwnEd.below {B : Nat} (h : OwnEd base w v l) (hb : Below B w w') (hB : w.heap.size ≤ B) : OwnEd base w' v l :=
  h.same (same_of_below hb) fun g hg => Nat.lt_of_lt_of_le (World.ownsRow.lt h g hg).2 hB
theorem flatMap_ed : ∀ (l : List Ed) (i : Nat) (e : Ed), l[i]? = some e → ∀ j u, (Ed.cells e)[j]? = some u → (l.flatMap Ed.cells)[i * 2 + j]? = some u
  | e :: l, 0, f, h, j, u, hu => by
    obtain rfl : e = f := by simpa using h
    rw [List.flatMap_cons, Nat.zero_mul, Nat.zero_add, List.getElem?_append_left (by have := (List.getElem?_eq_some_iff.1 hu).1; exact this)]
    exact hu
  | e :: l, i + 1, f, h, j, u, hu => by
    rw [List.flatMap_cons, List.getElem?_append_right (by simp [Ed.cells]; omega)]
    have : (i + 1) * 2 + j - (Ed.cells e).length = i * 2 + j := by simp [Ed.cells]; omega
    rw [this]
    exact flatMap_ed l i f (by simpa using h) j u hu
theorem OwnEd.form (h : OwnEd base w v l) : ∃ A c, v = .slice A l.length c ∧ EdIn (fun b => base ≤ b ∧ b < w.heap.size) w l A := by
  rcases h.2 with ⟨e, h0⟩ | ⟨g, cap, cur, e, hb, hg, hn, hc, hz, hx⟩
  · exact ⟨none, 0, by rw [e, h0], .inl (List.eq_nil_of_length_eq_zero h0)⟩
  · refine ⟨some ⟨g, 0, none⟩, cap, e, .inr ⟨g, 0, rfl, ⟨hb, (World.ownsRow.lt h g (by rw [e]; rfl)).2⟩, fun i x hx => fun j u hu => ?_⟩⟩
    have h1 := flatMap_ed l i x hx j u hu
    have h2 := World.ownsRow.cells h (g := g) (by rw [e]; rfl) (i * 2 + j) u h1
    rw [Addr.add_lit] at h2 ⊢
    rw [Nat.zero_add] at h2 ⊢
    exact h2
end

section
variable {w : World} {ops : Array Oper} {rest : List Oper} {o : Oper} {a : Act} {Q : Exit → Act → World → Prop}
theorem wpList_append_edge (hgd : o.guard = none) (s x : Operand) (ho : o.op = .call { callee := .builtin .append, args := #[s, x], argTypes := #[72, 72] })
    (base : Nat) (v : Value) (l : List Ed) (hs : a.eval s = v) (hg : OwnEd base w v l) (e : Ed) (g cap : Nat)
    (hx : a.eval x = .slice (some ⟨g, 0, none⟩) 1 cap) (hb : Blk w g 79 (Ed.cells e).toArray) (hl : l.length < 1000000) (hbase : base ≤ w.heap.size)
    (h : ∀ v' w', OwnEd base w' v' (l ++ [e]) → w.grownBy w' v.ownBlock → wpList Tryd.prog ops Q rest (a.put o.dst v') w') : wpList Tryd.prog ops Q (o :: rest) a w := by
  obtain ⟨i, hi, hz0, hz1, hz2⟩ := info_parts Tryd.infoEdge
  refine wpList_append_own_at w hgd s x 72 ho base 79 i _ 2 16 Tryd.underlying72 hi hz0 hz1 hz2 rfl (by decide) v l.length _ hs hg ⟨g, 0, none⟩ 1 cap (Ed.cells e) hx rfl ?_ (by simp [Value.oneCell', Ed.cells]) (by simp only [maxLen]; omega) (by omega) hbase ?_
  · intro j u hu
    rw [Addr.add_lit, Nat.zero_add, hb.cell]
    simpa using hu
  intro v' w' hown hgr _ _
  refine h v' w' ?_ hgr
  simpa [OwnEd, List.flatMap_append] using hown
end

/-- The edges of a list of ways. -/
def edgesOf (n : Nat) (f : Nat → Nat) : List Ed := ((List.range n).filter fun i => f i != 0).map fun (i : Nat) => (((i : Int), ((f i : Nat) : Int)) : Ed)
theorem edgesOf_succ (n : Nat) (f : Nat → Nat) : edgesOf (n + 1) f = edgesOf n f ++ if f n = 0 then [] else [((n : Int), ((f n : Nat) : Int))] := by
  unfold edgesOf
  rw [List.range_succ, List.filter_append, List.map_append]
  by_cases h : f n = 0 <;> simp [h]
theorem edgesOf_len (n : Nat) (f : Nat → Nat) : (edgesOf n f).length ≤ n := by
  unfold edgesOf
  rw [List.length_map]
  have := List.length_filter_le (fun i => f i != 0) (List.range n)
  simpa using this

/-- The edges were returned. -/
def EdgesIs (l : List Ed) (w : World) (e : Ending) (w' : World) : Prop := ∃ v, e = .returned v ∧ OwnEd w.heap.size w' v l ∧ Below w.heap.size w w'

set_option maxRecDepth 100000 in
set_option maxHeartbeats 2000000 in
theorem edges17_any (n ga : Nat) (f : Nat → Nat) (w : World) (hn : n ≤ 900000) (ha : InRow w ga n f) :
    Calls Tryd.prog 97 #[.slice (some ⟨ga, 0, none⟩) n n] w (EdgesIs (edgesOf n f) w) := by
  have HA := hide ha
  clear ha
  go_enter Tryd.func97, Tryd.ntmps97
  go_wp2_with fail
  go_loopw [3, 4] (fun lv kv wr => ∃ k : Nat, kv = .int .i64 k ∧ k ≤ n ∧ OwnEd w.heap.size wr lv (edgesOf k f) ∧ Below w.heap.size w wr) (fun _ kv _ => n - (intOf kv).toNat)
  case atStart => exact ⟨0, rfl, by omega, OwnEd.nil _ _, Below.refl _ _⟩
  case round =>
    obtain ⟨k, rfl, hk, hown, hbel⟩ := hrel
    by_cases hlt : k < n
    case neg =>
      have g1 : decide ((k : Int) < (n : Int)) = false := decide_eq_false (by omega)
      obtain rfl : k = n := by omega
      have HH := hide (And.intro hown hbel)
      clear hown hbel
      go_wp2_with fail
      go_ret
      exact ⟨_, rfl, HH.out⟩
    have g1 : decide ((k : Int) < (n : Int)) = true := decide_eq_true (by omega)
    have ca := (HA.out.same (same_of_below hbel) HA.out.lt).cell k hlt
    by_cases h0 : f k = 0
    · rw [h0] at ca
      have HH := hide (And.intro hown (And.intro hbel h0))
      clear hown hbel h0
      go_wp2_with fail
      go_roundw
      case rel => exact ⟨k + 1, by go_num, hlt, by rw [edgesOf_succ, if_pos HH.out.2.2, List.append_nil]; exact HH.out.1, HH.out.2.1⟩
      case measure => simp [intOf]; omega
    · have g2 : (((f k : Nat) : Int) != 0) = true := bne_iff_ne.2 (by omega)
      have hlen : (edgesOf k f).length < 1000000 := by have := edgesOf_len k f; omega
      have hsz := hbel.size
      have hal := (Below.refl wr.heap.size wr).alloc (Nat.le_refl _) (.cells #[.int .i64 (k : Int), .int .i64 ((f k : Nat) : Int)] 79)
      have hoA := hide (hown.below hal (Nat.le_refl _))
      have HH := hide (And.intro hown (And.intro hbel h0))
      clear hown hbel h0
      go_wp2_with (at_builtin; refine wpList_append_edge rfl _ _ rfl w.heap.size _ _ rfl hoA.out ((k : Int), ((f k : Nat) : Int)) wr.heap.size 1 rfl (Blk.new _ _ _) hlen (by simp; omega) ?_)
      intro v' w5 hown5 hg5
      have hb5 : Below w.heap.size w w5 := below_grew (HH.out.2.1.alloc (by omega) (.cells #[.int .i64 (k : Int), .int .i64 ((f k : Nat) : Int)] 79)) hg5 (Nat.le_refl _) (fun g hg => (World.ownsRow.lt HH.out.1 g hg).1)
      have H5 := hide (And.intro hown5 hb5)
      clear hown5 hg5 hb5 hoA hal
      go_wp2_with fail
      go_roundw
      case rel => exact ⟨k + 1, by go_num, hlt, by rw [edgesOf_succ, if_neg HH.out.2.2]; exact H5.out.1, H5.out.2⟩
      case measure => simp [intOf]; omega
end Go.Proofs.YtbbhobojghmkpaaDoor
