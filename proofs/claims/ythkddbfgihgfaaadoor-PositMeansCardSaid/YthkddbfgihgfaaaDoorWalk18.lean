/- Lead: The closure of walk's step: what edges lead to over a byte. (Printed by gen_lead.py.)
Step18: walk's step: over a byte. (Printed by gen_step18.py.)
Ends18: walk's ends: does a piece end at a place. (Printed by gen_ends18.py.)
Walk18: Asked18: walk.asked: the errors of a call; else a walker. (Printed by gen_asked18.py.)
Run18: The walk over positions, in plain Lean: fronts, ends.
Walk18: walk.Ends, Longest, Any. (Printed by gen_walk18.py.)
Any18: walk.Longest, walk.Any. (Printed by gen_any18.py.) -/
import Derived.Test.YthkddbfgihgfaaaDoorPoCheck
import Derived.Test.YthkddbfgihgfaaaDoorWays
import Derived.Test.YthkddbfgihgfaaaDoorBoolRow
import Derived.Test.YthkddbfgihgfaaaDoorPick
import Derived.Test.YthkddbfgihgfaaaDoorScene
import Derived.OwnWalk
set_option linter.unusedSimpArgs false
set_option linter.unusedVariables false
set_option linter.unnecessarySimpa false

/-! ## Lead -/
namespace Go.Proofs.YthkddbfgihgfaaaDoor
open Go.RowKit

/-- Is a byte in the set of position q? -/
def setHas (p : Po) (q b : Nat) : Bool :=
  match p.sets[q]? with
  | some s => Hd.has ⟨0, s.1, s.2.1, s.2.2.1, s.2.2.2, 0, 0, 0, false⟩ b
  | none => false
/-- Do the edges l lead to position q at marks m over byte b? -/
def leads (p : Po) (m b : Nat) (l : List Ed) (q : Nat) : Bool := l.any fun e => e.1 == (q : Int) && (e.2.toNat.testBit m && setHas p q b)
theorem leads_snoc (p : Po) (m b : Nat) (l : List Ed) (e : Ed) (q : Nat) : leads p m b (l ++ [e]) q = (leads p m b l q || (e.1 == (q : Int) && (e.2.toNat.testBit m && setHas p q b))) := by
  simp [leads, List.any_append]

theorem nodup_len : ∀ (n : Nat) (l : List Nat), l.Nodup → (∀ q ∈ l, q < n) → l.length ≤ n
  | 0, l, _, h => by
    cases l with
    | nil => simp
    | cons a l => have := h a (by simp); omega
  | n + 1, l, hd, h => by
    by_cases hn : n ∈ l
    · have h1 := nodup_len n (l.erase n) (hd.erase n) fun q hq => by
        have h2 := h q (List.mem_of_mem_erase hq)
        have h3 : q ≠ n := fun e => by subst e; exact (hd.mem_erase_iff.1 hq).1 rfl
        omega
      rw [List.length_erase_of_mem hn] at h1
      omega
    · have := nodup_len n l hd fun q hq => by
        have h2 := h q hq
        have h3 : q ≠ n := fun e => hn (e ▸ hq)
        omega
      omega

/-- The list of positions N lies in the variable of block bn. -/
def NextIs (y : World) (bn bN : Nat) (N : List Nat) : Prop := ∃ nv, Blk y bn 94 #[nv] ∧ OwnInts bN y nv (N.map fun q : Nat => (q : Int))
/-- The blocks that the closure leaves alone. -/
def Keep (gi bn bN : Nat) (b : Nat) : Prop := b < bN ∧ b ≠ gi ∧ b ≠ bn
theorem SeIn.cell {ok : Nat → Prop} {w : World} {l : List Se} {A : Option Addr} (h : SeIn ok w l A) {k : Nat} {s : Se} (hk : l[k]? = some s) :
    ∃ b o, A = some ⟨b, o, none⟩ ∧ ok b ∧ w.cell? ⟨b, o + k * 4, none⟩ = some (.int .u64 s.1) ∧ w.cell? ⟨b, o + k * 4 + 1, none⟩ = some (.int .u64 s.2.1) ∧ w.cell? ⟨b, o + k * 4 + 2, none⟩ = some (.int .u64 s.2.2.1) ∧ w.cell? ⟨b, o + k * 4 + 3, none⟩ = some (.int .u64 s.2.2.2) := by
  obtain ⟨b, o, e1, hb, hc⟩ := LIn.at_ h hk
  exact ⟨b, o, e1, hb, by simpa [Addr.add_lit] using hc 0 _ rfl, by simpa [Addr.add_lit] using hc 1 _ rfl, by simpa [Addr.add_lit] using hc 2 _ rfl, by simpa [Addr.add_lit] using hc 3 _ rfl⟩

theorem NextIs.later {y y' : World} {bn bN : Nat} {N : List Nat} (h : NextIs y bn bN N) (hb : Below y.heap.size y y') (x : Later y') : NextIs x.val bn bN N := by
  obtain ⟨nv, h1, h2⟩ := h
  exact ⟨nv, (h1.nxt hb).nxt x.2, (h2.below hb (Nat.le_refl _)).below x.2 (Nat.le_refl _)⟩

/-- What the closure leaves: the list of positions, the marks of those that are on it. -/
structure Led (p : Po) (m b n gi bn bN B0 : Nat) (N : List Nat) (r : List Ed) (y y' : World) (N' : List Nat) : Prop where
  next : NextIs y' bn bN N'
  row : BoRow y' gi n (fun q => decide (q ∈ N'))
  nodup : N'.Nodup
  lt : ∀ q ∈ N', q < n
  mem : ∀ q, q ∈ N' ↔ q ∈ N ∨ leads p m b r q = true
  below : Below B0 y y'
  same : Same (Keep gi bn bN) y y'

end Go.Proofs.YthkddbfgihgfaaaDoor

/-! ## Step18 -/
namespace Go.Proofs.YthkddbfgihgfaaaDoor
open Go.RowKit

/-- The front behind a byte: to which positions the edges of the front lead (and, at a start, those of first). -/
def stepB (p : Po) (m b : Nat) (starts : Bool) (F : Nat → Bool) (q : Nat) : Bool := (starts && leads p m b p.first q) || (List.range p.sets.length).any fun k => F k && leads p m b (p.follow.getD k []) q

/-- The list of positions under way: P tells which are on it. -/
structure Mid (P : Nat → Prop) (n gi bn bN B0 : Nat) (y y' : World) (N : List Nat) : Prop where
  next : NextIs y' bn bN N
  row : BoRow y' gi n (fun q => decide (q ∈ N))
  nodup : N.Nodup
  lt : ∀ q ∈ N, q < n
  mem : ∀ q, q ∈ N ↔ P q
  below : Below B0 y y'
  same : Same (Keep gi bn bN) y y'

theorem OwnInts.low {b1 b2 : Nat} {w : World} {v : Value} {l : List Int} (h : OwnInts b1 w v l) (hb : b2 ≤ b1) : OwnInts b2 w v l := by
  refine ⟨h.1, ?_⟩
  rcases h.2 with h | ⟨g, cap, cur, e, hg, r⟩
  · exact .inl h
  · exact .inr ⟨g, cap, cur, e, Nat.le_trans hb hg, r⟩

end Go.Proofs.YthkddbfgihgfaaaDoor

/-! ## Ends18 -/
namespace Go.Proofs.YthkddbfgihgfaaaDoor
open Go.RowKit

/-- Does a piece end at marks m, F the front (and, at a start, the empty piece)? -/
def endsB (p : Po) (m : Nat) (starts : Bool) (F : Nat → Bool) : Bool := (starts && p.null.toNat.testBit m) || p.last.any fun e => F e.1.toNat && e.2.toNat.testBit m

/-- What a map of edges holds. -/
def edgeMap (l : List Ed) : Int → Int := l.foldl (fun f e z => if z = e.1 then e.2 else f z) (fun _ => 0)
theorem edgeMap_snoc (l : List Ed) (e : Ed) : edgeMap (l ++ [e]) = fun z => if z = e.1 then e.2 else edgeMap l z := by
  unfold edgeMap
  rw [List.foldl_append]
  rfl
theorem edgeMap_some : ∀ (n : Nat) (l : List Ed), l.length = n → ∀ z, (∃ e ∈ l, e.1 = z ∧ edgeMap l z = e.2) ∨ ((∀ e ∈ l, e.1 ≠ z) ∧ edgeMap l z = 0)
  | 0, l, h, z => by
    rw [List.eq_nil_of_length_eq_zero h]
    exact .inr ⟨by simp, rfl⟩
  | n + 1, l, h, z => by
    obtain ⟨l', e, rfl⟩ : ∃ l' e, l = l' ++ [e] := ⟨l.dropLast, l.getLast (by intro e; rw [e] at h; simp at h), (List.dropLast_concat_getLast _).symm⟩
    rw [edgeMap_snoc]
    by_cases hz : z = e.1
    · exact .inl ⟨e, by simp, hz.symm, by simp [hz]⟩
    · rcases edgeMap_some n l' (by simpa using h) z with ⟨f, h1, h2, h3⟩ | ⟨h1, h2⟩
      · exact .inl ⟨f, by simp [h1], h2, by simp [hz, h3]⟩
      · refine .inr ⟨fun f hf => ?_, by simp [hz, h2]⟩
        rcases List.mem_append.1 hf with h4 | h4
        · exact h1 f h4
        · obtain rfl : f = e := by simpa using h4
          exact fun e => hz e.symm

theorem EdOk.ge {n : Int} {l : List Ed} (h : EdOk n l) : ∀ (i : Nat) (e : Ed), l[i]? = some e → (i : Int) ≤ e.1
  | 0, e, hi => (h.at_ hi).1
  | i + 1, e, hi => by
    have hl := (List.getElem?_eq_some_iff.1 hi).1
    have hd := List.getElem?_eq_getElem (show i < l.length by omega)
    have h1 := EdOk.ge h i _ hd
    have h2 := (h.at_ hi).2.2.2.2 _ (by omega) hd
    omega
theorem EdOk.lt {n : Int} {l : List Ed} (h : EdOk n l) : ∀ (d i : Nat) (e f : Ed), l[i]? = some e → l[i + d + 1]? = some f → e.1 < f.1
  | 0, i, e, f, hi, hf => (h.at_ hf).2.2.2.2 e (by omega) hi
  | d + 1, i, e, f, hi, hf => by
    have hl := (List.getElem?_eq_some_iff.1 hf).1
    have hd := List.getElem?_eq_getElem (show i + d + 1 < l.length by omega)
    have h1 := EdOk.lt h d i e _ hi hd
    have h2 := (h.at_ hf).2.2.2.2 _ (by omega) hd
    omega
theorem EdOk.len {n : Nat} {l : List Ed} (h : EdOk n l) : l.length ≤ n := by
  rcases Nat.eq_zero_or_pos l.length with h0 | h0
  · omega
  · have hd := List.getElem?_eq_getElem (show l.length - 1 < l.length by omega)
    have h1 := h.ge _ _ hd
    have h2 := (h.at_ hd).2.1
    omega
theorem EdOk.uniq {n : Int} {l : List Ed} (h : EdOk n l) {e f : Ed} (he : e ∈ l) (hf : f ∈ l) (heq : e.1 = f.1) : e = f := by
  obtain ⟨i, hi, rfl⟩ := List.getElem_of_mem he
  obtain ⟨j, hj, rfl⟩ := List.getElem_of_mem hf
  have h1 := List.getElem?_eq_getElem hi
  have h2 := List.getElem?_eq_getElem hj
  rcases Nat.lt_trichotomy i j with hij | hij | hij
  · have := h.lt (j - i - 1) i _ _ h1 (by rw [show i + (j - i - 1) + 1 = j by omega]; exact h2)
    omega
  · subst hij; rfl
  · have := h.lt (i - j - 1) j _ _ h2 (by rw [show j + (i - j - 1) + 1 = i by omega]; exact h1)
    omega
theorem edgeMap_bit {n : Int} {l : List Ed} (h : EdOk n l) (q m : Nat) : (∃ v : Nat, edgeMap l q = v ∧ v < 16 ∧ (v.testBit m = true ↔ ∃ e ∈ l, e.1 = (q : Int) ∧ e.2.toNat.testBit m = true)) := by
  rcases edgeMap_some _ l rfl q with ⟨e, h1, h2, h3⟩ | ⟨h1, h2⟩
  · obtain ⟨i, hi, ei⟩ := List.getElem_of_mem h1
    have hb := h.at_ (k := i) (e := e) (by rw [List.getElem?_eq_getElem hi, ei])
    refine ⟨e.2.toNat, by rw [h3]; omega, by omega, fun hb => ⟨e, h1, h2, hb⟩, ?_⟩
    rintro ⟨f, f1, f2, f3⟩
    rw [h.uniq h1 f1 (by rw [h2, f2])]
    exact f3
  · refine ⟨0, h2, by omega, fun hb => by simp at hb, ?_⟩
    rintro ⟨f, f1, f2, f3⟩
    exact absurd f2 (h1 f f1)

end Go.Proofs.YthkddbfgihgfaaaDoor

/-! ## Walk18 -/
/-! ## Asked18 -/
namespace Go.Proofs.YthkddbfgihgfaaaDoor
open Go.RowKit

/-- The error of a call. -/
def Asked18 (p : Po) (x : Sc) (a : Int) (g : Option Nat) : Prop :=
  (g = some 12 ∧ ¬ p.Ok) ∨ (g = some 14 ∧ p.Ok ∧ (a < 0 ∨ (x.len : Int) < a)) ∨ (g = none ∧ p.Ok ∧ 0 ≤ a ∧ a ≤ x.len)
theorem Asked18.eq {p : Po} {x : Sc} {a : Int} {g h : Option Nat} (h1 : Asked18 p x a g) (h2 : Asked18 p x a h) : g = h := by
  rcases h1 with ⟨rfl, a1⟩ | ⟨rfl, a1, a2⟩ | ⟨rfl, a1, a2, a3⟩ <;> rcases h2 with ⟨rfl, b1⟩ | ⟨rfl, b1, b2⟩ | ⟨rfl, b1, b2, b3⟩ <;> first | rfl | exact absurd a1 b1 | exact absurd b1 a1 | omega

end Go.Proofs.YthkddbfgihgfaaaDoor

/-! ## Run18 -/
namespace Go.Proofs.YthkddbfgihgfaaaDoor
open Go.RowKit

def byteB (x : Sc) (i : Nat) : Nat := (x.text.data.toList.getD i 0).toNat
/-- The front behind d bytes from place a on; st tells at which of them a piece may begin. -/
def frontB (p : Po) (x : Sc) (a : Nat) (st : Nat → Bool) : Nat → Nat → Bool
  | 0 => fun _ => false
  | d + 1 => stepB p (x.mark (a + d)) (byteB x (a + d)) (st d) (frontB p x a st d)
/-- Does a piece end behind d bytes? -/
def endAt (p : Po) (x : Sc) (a : Nat) (st : Nat → Bool) (d : Nat) : Bool := endsB p (x.mark (a + d)) (st d) (frontB p x a st d)
/-- The ends in the first k places. -/
def endsUpto (p : Po) (x : Sc) (a : Nat) (st : Nat → Bool) (k : Nat) : List Int := ((List.range k).filter (endAt p x a st)).map fun d => ((a + d : Nat) : Int)
/-- A piece begins at the first place alone. -/
def st0 (d : Nat) : Bool := d == 0
def endList (p : Po) (x : Sc) (a : Nat) : List Int := endsUpto p x a st0 (x.len + 1 - a)

theorem endsUpto_succ (p : Po) (x : Sc) (a : Nat) (st : Nat → Bool) (k : Nat) : endsUpto p x a st (k + 1) = endsUpto p x a st k ++ if endAt p x a st k = true then [((a + k : Nat) : Int)] else [] := by
  unfold endsUpto
  rw [List.range_succ, List.filter_append, List.map_append]
  cases h : endAt p x a st k <;> simp [h]
theorem endsUpto_len (p : Po) (x : Sc) (a : Nat) (st : Nat → Bool) (k : Nat) : (endsUpto p x a st k).length ≤ k := by
  unfold endsUpto
  rw [List.length_map]
  have := List.length_filter_le (endAt p x a st) (List.range k)
  simpa using this
theorem stepB_none {p : Po} {m b : Nat} {F : Nat → Bool} (h : ∀ q, F q = false) (q : Nat) : stepB p m b false F q = false := by
  unfold stepB
  rw [Bool.false_and, Bool.false_or]
  cases hh : (List.range p.sets.length).any fun k => F k && leads p m b (p.follow.getD k []) q with
  | false => rfl
  | true =>
    rw [List.any_eq_true] at hh
    obtain ⟨k, _, h2⟩ := hh
    rw [h k] at h2
    cases h2
theorem endsB_none {p : Po} {m : Nat} {F : Nat → Bool} (h : ∀ q, F q = false) : endsB p m false F = false := by
  unfold endsB
  rw [Bool.false_and, Bool.false_or]
  cases hh : p.last.any fun e => F e.1.toNat && e.2.toNat.testBit m with
  | false => rfl
  | true =>
    rw [List.any_eq_true] at hh
    obtain ⟨k, _, h2⟩ := hh
    rw [h _] at h2
    cases h2
theorem frontB_stop {p : Po} {x : Sc} {a : Nat} {st : Nat → Bool} {k : Nat} (h : ∀ q, frontB p x a st k q = false) (hs : ∀ d, k ≤ d → st d = false) : ∀ j q, frontB p x a st (k + j) q = false
  | 0, q => h q
  | j + 1, q => by
    rw [← Nat.add_assoc, frontB, hs (k + j) (by omega)]
    exact stepB_none (frontB_stop h hs j) q
theorem endsUpto_stop {p : Po} {x : Sc} {a : Nat} {st : Nat → Bool} {k : Nat} (h : ∀ q, frontB p x a st k q = false) (hs : ∀ d, k ≤ d → st d = false) : ∀ j, endsUpto p x a st (k + j) = endsUpto p x a st k
  | 0 => rfl
  | j + 1 => by
    have he : endAt p x a st (k + j) = false := by
      unfold endAt
      rw [hs (k + j) (by omega)]
      exact endsB_none (frontB_stop h hs j)
    rw [← Nat.add_assoc, endsUpto_succ, endsUpto_stop h hs j, he]
    simp
theorem endsUpto_bd {p : Po} {x : Sc} {a : Nat} {st : Nat → Bool} {k : Nat} {z : Int} (h : z ∈ endsUpto p x a st k) : ∃ d, d < k ∧ z = ((a + d : Nat) : Int) ∧ endAt p x a st d = true := by
  unfold endsUpto at h
  obtain ⟨d, h1, rfl⟩ := List.mem_map.1 h
  rw [List.mem_filter, List.mem_range] at h1
  exact ⟨d, h1.1, rfl, h1.2⟩
end Go.Proofs.YthkddbfgihgfaaaDoor

/-! ## Walk18 -/
namespace Go.Proofs.YthkddbfgihgfaaaDoor
open Go.RowKit

/-- What Ends answers. -/
def Ended18 (p : Po) (x : Sc) (q : Int) (a : Nat → Addr) (w : World) (e : Ending) (w' : World) : Prop :=
  ∃ (g : Option Nat) (v : Value) (r : List Int), e = .returned (.tuple #[v, walkErr a g]) ∧ Asked18 p x q g ∧ OwnInts w.heap.size w' v r ∧ (g = none → r = endList p x q.toNat) ∧ (g ≠ none → r = []) ∧ Below w.heap.size w w'

end Go.Proofs.YthkddbfgihgfaaaDoor

/-! ## Any18 -/
namespace Go.Proofs.YthkddbfgihgfaaaDoor
open Go.RowKit

/-- A place, and whether there is one. -/
def PlaceIs (z : Option Int) (n : Int) (ok : Bool) : Prop := (z = none ∧ n = 0 ∧ ok = false) ∨ (z = some n ∧ ok = true)
/-- What Longest and Any answer: a place, whether there is one, the error. -/
def Placed18 (p : Po) (x : Sc) (q : Int) (z : Option Int) (a : Nat → Addr) (w : World) (e : Ending) (w' : World) : Prop :=
  ∃ (g : Option Nat) (n : Int) (ok : Bool), e = .returned (.tuple #[.int .i64 n, .bool ok, walkErr a g]) ∧ Asked18 p x q g ∧ (g = none → PlaceIs z n ok) ∧ (g ≠ none → n = 0 ∧ ok = false) ∧ Below w.heap.size w w'

/-- A piece may begin at each place. -/
def st1 (d : Nat) : Bool := true
def anyList (p : Po) (x : Sc) (a : Nat) : List Int := endsUpto p x a st1 (x.len + 1 - a)
theorem endsUpto_head {p : Po} {x : Sc} {a : Nat} {st : Nat → Bool} {k : Nat} (h : endsUpto p x a st k = []) (he : endAt p x a st k = true) : ∀ j, (endsUpto p x a st (k + 1 + j))[0]? = some ((a + k : Nat) : Int)
  | 0 => by rw [Nat.add_zero, endsUpto_succ, h, he]; rfl
  | j + 1 => by
    rw [← Nat.add_assoc, endsUpto_succ]
    have := endsUpto_head h he j
    rw [List.getElem?_append_left (by have := (List.getElem?_eq_some_iff.1 this).1; exact this)]
    exact this

end Go.Proofs.YthkddbfgihgfaaaDoor
