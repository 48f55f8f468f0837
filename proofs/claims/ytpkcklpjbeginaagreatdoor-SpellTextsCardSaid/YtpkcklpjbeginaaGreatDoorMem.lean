/- Memory that a call has made: trees that own their blocks; the walk's laws for nodes loaded from, and stored into, rows of cells. -/
import Derived.Test.YtpkcklpjbeginaaGreatDoorTree
import Derived.Laws.CopyOwn
import Derived.BigQuiet
namespace Go.Proofs.YtpkcklpjbeginaaGreatDoor
open Go.RowKit

theorem hide {p : Prop} (h : p) : Hid p := h

/-- Block g is just these cells of element type t, none frozen. -/
def Blk (w : World) (g : Nat) (t : TypeId) (cs : Array Value) : Prop := w.heap[g]? = some (.cells cs t (0, 0))

section
variable {w w' : World} {g : Nat} {t : TypeId} {cs : Array Value}
theorem Blk.lt (h : Blk w g t cs) : g < w.heap.size := by
 rcases Nat.lt_or_ge g w.heap.size with hlt | hge
 ·exact hlt
 ·unfold Blk at h; rw [Array.getElem?_eq_none hge] at h; cases h
theorem Blk.cell (h : Blk w g t cs) (i : Nat) : w.cell? ⟨g, i, none⟩ = cs[i]? := cell_of_row w g i cs t (0, 0) h
theorem Blk.frozen (h : Blk w g t cs) (i : Nat) : w.frozen? ⟨g, i, none⟩ = false := by
 unfold Blk at h
 simp [World.frozen?, h]
theorem Blk.new (w : World) (t : TypeId) (cs : Array Value) : Blk (w.alloc (.cells cs t)) w.heap.size t cs := heap_alloc_new w _
theorem Blk.alloc (h : Blk w g t cs) (o : Obj) : Blk (w.alloc o) g t cs := (Below.heap_alloc w o g h.lt).trans h
theorem Blk.far (h : Blk w g t cs) {p : Addr} (hp : g ≠ p.block) (u : Value) : Blk (w.setCell p u) g t cs := (Below.heap_setCell w p u g hp).trans h
theorem Blk.below {B : Nat} (h : Blk w g t cs) (hb : Below B w w') (hg : g < B) : Blk w' g t cs := (hb.block g hg).trans h
theorem Blk.grown {row : Option Nat} (h : Blk w g t cs) (hb : w.grownBy w' row) (hg : some g ≠ row) : Blk w' g t cs := (hb.block g h.lt hg).trans h
theorem Blk.same {ok : Nat → Prop} (h : Blk w g t cs) (hs : Same ok w w') (hg : ok g) : Blk w' g t cs := (hs g hg).trans h
end

mutual
/-- The tree's list value '.slice A n c' lies in w in memory of its own: one block a list, the blocks are bs. -/
def T.Own (w : World) : T → Option Addr → List Nat → Prop
 | .mk _ l, A, bs => (l = [] ∧ bs = []) ∨ ∃ g cur bs', A = some ⟨g, 0, none⟩ ∧ bs = g :: bs' ∧ Blk w g 27 cur ∧ TL.Own w l cur.toList bs'
/-- The cells xs begin with these nodes, the memory of their lists is bs. -/
def TL.Own (w : World) : List T → List Value → List Nat → Prop
 | [], _, bs => bs = []
 | t :: ts, xs, bs => ∃ B c b1 b2 rest, xs = t.hd.cells (.slice B t.subs.length c) ++ rest ∧ bs = b1 ++ b2 ∧ T.Own w t B b1 ∧ TL.Own w ts rest b2
end

mutual
theorem T.Own.same {w w' : World} : ∀ {t : T} {A : Option Addr} {bs : List Nat}, T.Own w t A bs → Same (· ∈ bs) w w' → T.Own w' t A bs
 | .mk _ l, A, bs, h, hs => by
  rcases h with h | ⟨g, cur, bs', h1, h2, h3, h4⟩
  ·exact .inl h
  ·subst h2
   exact .inr ⟨g, cur, bs', h1, rfl, h3.same hs (by simp), TL.Own.same h4 (hs.mono fun b hb => by simp [hb])⟩
theorem TL.Own.same {w w' : World} : ∀ {l : List T} {xs : List Value} {bs : List Nat}, TL.Own w l xs bs → Same (· ∈ bs) w w' → TL.Own w' l xs bs
 | [], _, _, h, _ => h
 | _ :: _, _, _, ⟨B, c, b1, b2, rest, h1, h2, h3, h4⟩, hs => by
  subst h2
  exact ⟨B, c, b1, b2, rest, h1, rfl, T.Own.same h3 (hs.mono fun b hb => by simp [hb]), TL.Own.same h4 (hs.mono fun b hb => by simp [hb])⟩
end

theorem Hd.cells_length (h : Hd) (v : Value) : (h.cells v).length = 10 := rfl

theorem TL.Own.len {w : World} : ∀ {l : List T} {xs : List Value} {bs : List Nat}, TL.Own w l xs bs → 10 * l.length ≤ xs.length
 | [], _, _, _ => by simp
 | _ :: l, _, _, ⟨B, c, b1, b2, rest, h1, _, _, h4⟩ => by
  have := TL.Own.len h4
  subst h1
  simp [Hd.cells_length]
  omega

/-- One node more at the end. -/
theorem TL.Own.snoc {w : World} {t : T} {B : Option Addr} {c : Nat} {b2 : List Nat} {tail : List Value} (ht : T.Own w t B b2) : ∀ {l : List T} {xs : List Value} {bs : List Nat}, TL.Own w l xs bs →
  TL.Own w (l ++ [t]) (xs.take (10 * l.length) ++ (t.hd.cells (.slice B t.subs.length c) ++ tail)) (bs ++ b2)
 | [], xs, bs, h => by
  have h' : bs = [] := h
  subst h'
  exact ⟨B, c, b2, [], tail, by simp, by simp, ht, rfl⟩
 | s :: l, xs, bs, ⟨B', c', b1, b1', rest, h1, h2, h3, h4⟩ => by
  subst h1; subst h2
  refine ⟨B', c', b1, b1' ++ b2, rest.take (10 * l.length) ++ (t.hd.cells (.slice B t.subs.length c) ++ tail), ?_, by simp, h3, TL.Own.snoc (c := c) (tail := tail) ht h4⟩
  rw [show 10 * (s :: l).length = (s.hd.cells (.slice B' s.subs.length c')).length + 10 * l.length from by simp [Hd.cells_length]; omega, List.take_length_add_append, List.append_assoc]

mutual
theorem T.Own.in_ {w : World} {ok : Nat → Prop} : ∀ {t : T} {A : Option Addr} {bs : List Nat}, T.Own w t A bs → (∀ b ∈ bs, ok b) → T.In w ok t A
 | .mk _ l, A, bs, h, ho => by
  rcases h with ⟨h, _⟩ | ⟨g, cur, bs', h1, h2, h3, h4⟩
  ·subst h; trivial
  ·subst h1; subst h2
   refine TL.Own.in_ h4 (fun b hb => ho b (by simp [hb])) ?_ (ho g (by simp))
   intro j u hu
   rw [Addr.add_lit, Nat.zero_add, h3.cell]
   simpa using hu
theorem TL.Own.in_ {w : World} {ok : Nat → Prop} : ∀ {l : List T} {xs : List Value} {bs : List Nat} {b o : Nat}, TL.Own w l xs bs → (∀ b ∈ bs, ok b) →
  CellsAt w ⟨b, o, none⟩ xs → ok b → TL.In w ok l (some ⟨b, o, none⟩)
 | [], _, _, _, _, _, _, _, _ => trivial
 | t :: l, _, _, b, o, ⟨B, c, b1, b2, rest, h1, h2, h3, h4⟩, ho, hc, hok => by
  subst h1; subst h2
  refine ⟨b, o, B, c, rfl, hok, fun j u hu => hc j u ?_, T.Own.in_ h3 (fun b hb => ho b (by simp [hb])), TL.Own.in_ h4 (fun b hb => ho b (by simp [hb])) (fun j u hu => ?_) hok⟩
  ·rw [List.getElem?_append_left (List.getElem?_eq_some_iff.1 hu).1]
   exact hu
  ·have h1 := hc (10 + j) u (by rw [List.getElem?_append_right (by simp [Hd.cells_length])]; simpa [Hd.cells_length] using hu)
   rw [Addr.add_lit] at h1 ⊢
   rw [show o + 10 + j = o + (10 + j) from by omega]
   exact h1
end

/-! ### Laws of the walk -/
section
variable {P : Program} {w : World} {ops : Array Oper} {rest : List Oper} {o : Oper} {a : Act} {Q : Exit → Act → World → Prop}

/-- A struct loaded from wherever its cells lie. -/
theorem wpList_load_cells (hgd : o.guard = none) (ty : TypeId) (x : Operand) (ho : o.op = .load ty x) (ad : Addr) (hx : a.eval x = .pointer (some ad)) (cs : List Value) (d : TypeDesc)
  (hu : P.underlying ty = some d) (hd : (match d with | .struct _ | .array _ _ => true | _ => false) = true) (hi : (P.info? ty).map (·.size) = some cs.length) (hc : CellsAt w ad cs)
  (h : wpList P ops Q rest (a.put o.dst (.agg cs.toArray)) w) : wpList P ops Q (o :: rest) a w := by
 refine wpList_plain hgd fun K hK => ?_
 have hl := run_loadCells_list (P := P) w ad cs hc
 cases hq : P.info? ty with
 | none => simp [hq] at hi
 | some i =>
  have hs : i.size = cs.length := by simpa [hq] using hi
  have hagg : (isAgg ty).run P w = .ok true w := by
   unfold isAgg
   rw [Sem.run_bind, run_underlying hu w]
   cases d <;> simp_all
  have hrun : (loadVar ty ad).run P w = .ok (.agg cs.toArray) w := by
   simp [loadVar, Sem.run_bind, hagg, sizeOf, typeInfo, hq, hs, hl]
  unfold Oper.wp execOp
  simp only [ho, hx, Instr.loadAt, Instr.sureAddr, Sem.run_bind, Sem.run_pure, Result.andThen_ok, hrun]
  exact hK _ _ h

/-- A struct stored into a row. -/
theorem wpList_store_row (hgd : o.guard = none) (ty : TypeId) (x v : Operand) (ho : o.op = .store ty x v) (g off : Nat) (t : TypeId) (cur cs : Array Value)
  (hx : a.eval x = .pointer (some ⟨g, off, none⟩)) (hv : a.eval v = .agg cs) (hg : Blk w g t cur) (hi : (P.info? ty).map (·.size) = some cs.size) (hfit : off + cs.size ≤ cur.size)
  (h1 : ∀ u ∈ cs.toList, u.oneCell' = true)
  (h : ∀ w', Hid (Blk w' g t (splice cur.toList off cs.toList).toArray) → w.grownBy w' (some g) → w'.heap.size = w.heap.size → wpList P ops Q rest (a.put o.dst undef) w') : wpList P ops Q (o :: rest) a w := by
 refine wpList_plain hgd fun K hK => ?_
 have hst := run_storeCells_at P g off t cs.toList 0 cur w hg (by simpa using hfit) h1
 cases hq : P.info? ty with
 | none => simp [hq] at hi
 | some i =>
  have hs : i.size = cs.size := by simpa [hq] using hi
  have hrun : (storeVar ty ⟨g, off, none⟩ (.agg cs)).run P w = .ok () (w.setRow g (cur.toList.take off ++ cs.toList ++ cur.toList.drop (off + cs.toList.length)).toArray) := by
   simpa [storeVar, Sem.run_bind, sizeOf, typeInfo, hq, hs, Value.cells] using hst
  unfold Oper.wp execOp
  simp only [ho, hx, hv, Instr.storeAt, Instr.sureAddr, Sem.run_bind, Sem.run_pure, Result.andThen_ok, hrun]
  refine hK _ _ (h _ ?_ ⟨rfl, rfl, rfl, by simp, fun k _ hk => setRow_other w g k _ (fun e => hk (by simp [e]))⟩ (by simp))
  exact (show _ = _ by simpa [splice] using setRow_heap w g _ _ t _ hg)
end

theorem cells_one (h : Hd) (B : Option Addr) (n c : Nat) : ∀ u ∈ (h.cells (.slice B n c)), u.oneCell' = true := by
 simp [Hd.cells, Value.oneCell']

/-- make([]T, n), whatever the element: an equation for every world. -/
theorem run_make_rowN {P : Program} (t e : TypeId) (i : TypeInfo) (z : Value) (ht : P.underlying t = some (.slice e)) (hi : P.info? e = some i) (hz : i.zero = some z)
  (kl kc : IntKind) (n c : Nat) (hnc : n ≤ c) (hbytes : i.bytes * c ≤ 281474976710656) (h63 : c ≤ 9223372036854775807) (w : World) :
  (Instr.makeSlice t (.int kl (n : Int)) (.int kc (c : Int))).run P w = .ok (.slice (some ⟨w.heap.size, 0, none⟩) n c) (w.alloc (.cells (madeCells z.cells (c * i.size)) e)) := by
 have hb : (i.bytes : Int) * (c : Int) ≤ 281474976710656 := by
  have h : ((i.bytes * c : Nat) : Int) ≤ 281474976710656 := by omega
  rwa [Int.natCast_mul] at h
 have hr := run_make (P := P) w t e i z ht hi hz kl kc n c (by omega) (by omega) hb (by omega)
 simp only [Int.toNat_natCast] at hr
 exact hr

/-! ### A region that draws its order, whose operations read old memory alone and whose callees may make new memory -/
section
variable {P : Program} {w : World}
/-- The worlds in which what w held is as it was. -/
structure Later (w : World) where
 val : World
 prop : Below w.heap.size w val

instance : Nonempty (Later w) := ⟨⟨w, Below.refl _ _⟩⟩

theorem wp_region_later {id : Nat} {Q : Exit → Act → World → Prop} {a : Act} {l : List Oper} (hm : P.follows .mixedOrders = true) (hB : Region.lexB .any l.toArray = true)
  (h : wpQuiet P l.toArray (fun w' => ∃ x : Later w, w' = x.val) (fun a' => ∀ w', (∃ x : Later w, w' = x.val) → Q .normal a' w') l a) : (Code.region id l.toArray true).wp P Q a w :=
 wp_region_quiet (C := fun w' => ∃ x : Later w, w' = x.val) hm hB ⟨⟨_, (Below.refl _ _).drew⟩, rfl⟩ (by simpa using h)

theorem calls_later {f : FuncId} {args : Array Value} {v : Value} {x : Later w} (h : Calls P f args x.val fun e w' => e = .returned v ∧ Below x.val.heap.size x.val w') :
  Calls P f args x.val fun e w'' => e = .returned v ∧ ∃ y : Later w, w'' = y.val :=
 h.mono fun _ w' ⟨he, hb⟩ => ⟨he, ⟨w', x.2.trans (hb.mono x.2.size)⟩, rfl⟩

end
end Go.Proofs.YtpkcklpjbeginaaGreatDoor
