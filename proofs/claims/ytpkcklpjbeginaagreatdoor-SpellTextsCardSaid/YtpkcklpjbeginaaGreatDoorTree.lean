/- Trees as plain data, and what it means that a list value holds trees in a world: every node is ten cells, its list's memory lies in the blocks that ok lets in. -/
import Derived.WalkKit
namespace Go.Proofs.YtpkcklpjbeginaaGreatDoor
open Go.RowKit

/-- What a node holds beside its list. -/
structure Hd where
 kind : Int
 s0 : Int
 s1 : Int
 s2 : Int
 s3 : Int
 num : Int
 min : Int
 max : Int
 bare : Bool

inductive T where
 | mk (h : Hd) (subs : List T) : T

def T.hd : T → Hd | .mk h _ => h
def T.subs : T → List T | .mk _ l => l

/-- The ten cells of a node whose list is the value v. -/
def Hd.cells (h : Hd) (v : Value) : List Value :=
 [.int .i64 h.kind, .int .u64 h.s0, .int .u64 h.s1, .int .u64 h.s2, .int .u64 h.s3, v, .int .i64 h.num, .int .i64 h.min, .int .i64 h.max, .bool h.bare]

/-- n cells from an address on. -/
def CellsAt (w : World) (ad : Addr) (cs : List Value) : Prop := ∀ j u, cs[j]? = some u → w.cell? (ad.add j) = some u

theorem add_block (a : Addr) (n : Nat) : (a.add n).block = a.block := by unfold Addr.add; split <;> rfl
/-- The worlds hold the same in the blocks that ok lets in. -/
def Same (ok : Nat → Prop) (w w' : World) : Prop := ∀ b, ok b → w'.heap[b]? = w.heap[b]?

theorem Same.cell {ok : Nat → Prop} {w w' : World} (h : Same ok w w') {a : Addr} (ha : ok a.block) : w'.cell? a = w.cell? a := World.cell?_of_block (h _ ha)
theorem Same.frozen {ok : Nat → Prop} {w w' : World} (h : Same ok w w') {a : Addr} (ha : ok a.block) : w'.frozen? a = w.frozen? a := World.frozen?_of_block (h _ ha)
theorem Same.refl (ok : Nat → Prop) (w : World) : Same ok w w := fun _ _ => rfl
theorem Same.trans {ok : Nat → Prop} {a b c : World} (h : Same ok a b) (k : Same ok b c) : Same ok a c := fun i hi => (k i hi).trans (h i hi)
theorem Same.mono {ok ok' : Nat → Prop} {w w' : World} (h : Same ok w w') (hk : ∀ b, ok' b → ok b) : Same ok' w w' := fun b hb => h b (hk b hb)
theorem same_of_below {B : Nat} {w w' : World} (h : Below B w w') : Same (· < B) w w' := fun b hb => h.block b hb

theorem Same.set {ok : Nat → Prop} {w w' : World} (h : Same ok w w') {p : Addr} (hp : ¬ ok p.block) (v : Value) : Same ok w (w'.setCell p v) := fun b hb => (Below.heap_setCell _ _ _ _ (fun e => hp (e ▸ hb))).trans (h b hb)
theorem Same.alloc {ok : Nat → Prop} {w w' : World} (h : Same ok w w') (hk : ∀ b, ok b → b < w'.heap.size) (o : Obj) : Same ok w (w'.alloc o) := fun b hb => (Below.heap_alloc _ _ _ (hk b hb)).trans (h b hb)

theorem CellsAt.same {ok : Nat → Prop} {w w' : World} {ad : Addr} {cs : List Value} (h : CellsAt w ad cs) (hs : Same ok w w') (ho : ok ad.block) : CellsAt w' ad cs :=
 fun j u hu => (hs.cell (a := ad.add j) (by rw [add_block]; exact ho)).trans (h j u hu)

mutual
/-- The list value '.slice A n c' holds the Subs of this tree in w; all memory lies in blocks that ok lets in. -/
def T.In (w : World) (ok : Nat → Prop) : T → Option Addr → Prop
 | .mk _ l, A => TL.In w ok l A
def TL.In (w : World) (ok : Nat → Prop) : List T → Option Addr → Prop
 | [], _ => True
 | t :: ts, A => ∃ b o B c, A = some ⟨b, o, none⟩ ∧ ok b ∧ CellsAt w ⟨b, o, none⟩ (t.hd.cells (.slice B t.subs.length c)) ∧ T.In w ok t B ∧ TL.In w ok ts (some ⟨b, o + 10, none⟩)
end

theorem T.In_iff {w : World} {ok : Nat → Prop} {t : T} {A : Option Addr} : T.In w ok t A ↔ TL.In w ok t.subs A := by cases t; simp [T.In, T.subs]

mutual
theorem T.In.same {w w' : World} {ok ok' : Nat → Prop} (hs : Same ok w w') (hk : ∀ b, ok b → ok' b) : ∀ {t : T} {A : Option Addr}, T.In w ok t A → T.In w' ok' t A
 | .mk _ l, _, h => TL.In.same (l := l) hs hk h
theorem TL.In.same {w w' : World} {ok ok' : Nat → Prop} (hs : Same ok w w') (hk : ∀ b, ok b → ok' b) : ∀ {l : List T} {A : Option Addr}, TL.In w ok l A → TL.In w' ok' l A
 | [], _, _ => trivial
 | _ :: _, _, ⟨b, o, B, c, h1, h2, h3, h4, h5⟩ => ⟨b, o, B, c, h1, hk _ h2, h3.same hs h2, T.In.same hs hk h4, TL.In.same hs hk h5⟩
end

theorem TL.In.at_ {w : World} {ok : Nat → Prop} : ∀ {l : List T} {A : Option Addr} {i : Nat} {t : T}, TL.In w ok l A → l[i]? = some t →
  ∃ b o B c, A = some ⟨b, o, none⟩ ∧ ok b ∧ CellsAt w ⟨b, o + i * 10, none⟩ (t.hd.cells (.slice B t.subs.length c)) ∧ T.In w ok t B
 | [], _, _, _, _, hi => by simp at hi
 | s :: l, A, 0, t, ⟨b, o, B, c, h1, h2, h3, h4, _⟩, hi => by
  have e : s = t := by simpa using hi
  subst e
  exact ⟨b, o, B, c, h1, h2, by simpa using h3, h4⟩
 | s :: l, A, i + 1, t, ⟨b, o, B, c, h1, h2, h3, h4, h5⟩, hi => by
  obtain ⟨b', o', B', c', e, _, k3, k4⟩ := TL.In.at_ (i := i) (t := t) h5 (by simpa using hi)
  simp only [Option.some.injEq, Addr.mk.injEq, and_true] at e
  obtain ⟨rfl, rfl⟩ := e
  exact ⟨b, o, B', c', h1, h2, by rw [show o + (i + 1) * 10 = o + 10 + i * 10 from by omega]; exact k3, k4⟩

theorem TL.In.mk_ {w : World} {ok : Nat → Prop} : ∀ {l : List T} {b o : Nat}, ok b →
  (∀ i t, l[i]? = some t → ∃ B c, CellsAt w ⟨b, o + i * 10, none⟩ (t.hd.cells (.slice B t.subs.length c)) ∧ T.In w ok t B) → TL.In w ok l (some ⟨b, o, none⟩)
 | [], _, _, _, _ => trivial
 | s :: l, b, o, ho, h => by
  obtain ⟨B, c, h1, h2⟩ := h 0 s rfl
  refine ⟨b, o, B, c, rfl, ho, by simpa using h1, h2, TL.In.mk_ ho fun i t hi => ?_⟩
  obtain ⟨B, c, k1, k2⟩ := h (i + 1) t (by simpa using hi)
  exact ⟨B, c, by rw [show o + 10 + i * 10 = o + (i + 1) * 10 from by omega]; exact k1, k2⟩

/-- A node's ten cells, one by one. -/
theorem CellsAt.node {w : World} {b o : Nat} {h : Hd} {v : Value} (hc : CellsAt w ⟨b, o, none⟩ (h.cells v)) :
  w.cell? ⟨b, o, none⟩ = some (.int .i64 h.kind) ∧ w.cell? ⟨b, o + 1, none⟩ = some (.int .u64 h.s0) ∧ w.cell? ⟨b, o + 2, none⟩ = some (.int .u64 h.s1) ∧ w.cell? ⟨b, o + 3, none⟩ = some (.int .u64 h.s2) ∧
  w.cell? ⟨b, o + 4, none⟩ = some (.int .u64 h.s3) ∧ w.cell? ⟨b, o + 5, none⟩ = some v ∧ w.cell? ⟨b, o + 6, none⟩ = some (.int .i64 h.num) ∧ w.cell? ⟨b, o + 7, none⟩ = some (.int .i64 h.min) ∧
  w.cell? ⟨b, o + 8, none⟩ = some (.int .i64 h.max) ∧ w.cell? ⟨b, o + 9, none⟩ = some (.bool h.bare) := by
 have k := fun j u hu => (Addr.add_lit b o j) ▸ hc j u hu
 exact ⟨k 0 _ rfl, k 1 _ rfl, k 2 _ rfl, k 3 _ rfl, k 4 _ rfl, k 5 _ rfl, k 6 _ rfl, k 7 _ rfl, k 8 _ rfl, k 9 _ rfl⟩

mutual
/-- How many nodes. -/
def T.nodes : T → Nat
 | .mk _ l => 1 + TL.nodes l
def TL.nodes : List T → Nat
 | [] => 0
 | t :: ts => t.nodes + TL.nodes ts
end
theorem T.nodes_eq (t : T) : t.nodes = 1 + TL.nodes t.subs := by cases t; simp [T.nodes, T.subs]
theorem T.nodes_pos (t : T) : 0 < t.nodes := by rw [t.nodes_eq]; omega
theorem TL.length_le : ∀ l : List T, l.length ≤ TL.nodes l
 | [] => by simp [TL.nodes]
 | t :: ts => by have := TL.length_le ts; have := t.nodes_pos; simp [TL.nodes]; omega
theorem TL.nodes_mem : ∀ {l : List T} {t : T}, t ∈ l → t.nodes ≤ TL.nodes l
 | s :: l, t, h => by
  simp only [TL.nodes]
  rcases List.mem_cons.1 h with h | h
  ·subst h; omega
  ·have := TL.nodes_mem h; omega
theorem T.length_lt (t : T) : t.subs.length < t.nodes := by have := TL.length_le t.subs; rw [t.nodes_eq]; omega

def IsI64 (n : Int) : Prop := -9223372036854775808 ≤ n ∧ n ≤ 9223372036854775807
def IsU64 (n : Int) : Prop := 0 ≤ n ∧ n ≤ 18446744073709551615
def Hd.wf (h : Hd) : Prop := IsI64 h.kind ∧ IsU64 h.s0 ∧ IsU64 h.s1 ∧ IsU64 h.s2 ∧ IsU64 h.s3 ∧ IsI64 h.num ∧ IsI64 h.min ∧ IsI64 h.max
mutual
/-- All numbers fit their kinds, all lists are of a length that Go lets by. -/
def T.wf : T → Prop
 | .mk h l => h.wf ∧ l.length ≤ 9223372036854775807 ∧ TL.wf l
def TL.wf : List T → Prop
 | [] => True
 | t :: ts => t.wf ∧ TL.wf ts
end
theorem T.wf_eq {t : T} : t.wf ↔ t.hd.wf ∧ t.subs.length ≤ 9223372036854775807 ∧ TL.wf t.subs := by cases t; simp [T.wf, T.hd, T.subs]
theorem TL.wf_mem : ∀ {l : List T} {t : T}, TL.wf l → t ∈ l → t.wf
 | s :: l, t, h, hm => by
  simp only [TL.wf] at h
  rcases List.mem_cons.1 hm with e | hm
  ·subst e; exact h.1
  ·exact TL.wf_mem h.2 hm

end Go.Proofs.YtpkcklpjbeginaaGreatDoor
