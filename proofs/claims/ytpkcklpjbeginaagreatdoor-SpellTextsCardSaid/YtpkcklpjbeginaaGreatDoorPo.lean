/- Positions (api.Posits) in memory: lists of sets and of edges that are read. -/
import Derived.Test.YtpkcklpjbeginaaGreatDoorGrow
import Derived.OpenShut
import Derived.ChangeShapes
set_option linter.unusedSimpArgs false
set_option linter.unusedVariables false
namespace Go.Proofs.YtpkcklpjbeginaaGreatDoor
open Go.RowKit Go.ChangeShapes

theorem splice_full {cur cs : List Value} (h : cs.length = cur.length) : splice cur 0 cs = cs := by
 simp [splice, h]
theorem below_grew {B : Nat} {w wr w' : World} {row : Option Nat} (h : Below B w wr) (hg : wr.grownBy w' row) (hB : B ≤ w.heap.size) (hr : ∀ g, row = some g → B ≤ g) : Below B w w' :=
 ⟨hg.os.trans h.os, hg.tape.trans h.tape, hg.output.trans h.output, Nat.le_trans h.size hg.size, fun b hb => (hg.block b (by have := h.size; omega) (fun e => by have := hr b e.symm; omega)).trans (h.block b hb)⟩
theorem Blk.nxt {w w' : World} {g : Nat} {t : TypeId} {cs : Array Value} (h : Blk w g t cs) (hb : Below w.heap.size w w') : Blk w' g t cs := h.below hb h.lt

/-- The list l lies from address A on, sz cells a place; p tells of a place. -/
def LIn {α : Type} (ok : Nat → Prop) (sz : Nat) (p : World → Addr → α → Prop) (w : World) (l : List α) (A : Option Addr) : Prop :=
 l = [] ∨ ∃ b o, A = some ⟨b, o, none⟩ ∧ ok b ∧ ∀ i x, l[i]? = some x → p w ⟨b, o + i * sz, none⟩ x

theorem LIn.at_ {α : Type} {ok : Nat → Prop} {sz : Nat} {p : World → Addr → α → Prop} {w : World} {l : List α} {A : Option Addr} (h : LIn ok sz p w l A) {i : Nat} {x : α} (hi : l[i]? = some x) :
  ∃ b o, A = some ⟨b, o, none⟩ ∧ ok b ∧ p w ⟨b, o + i * sz, none⟩ x := by
 rcases h with rfl | ⟨b, o, e, hb, h⟩
 ·simp at hi
 ·exact ⟨b, o, e, hb, h i x hi⟩
theorem LIn.move {α : Type} {ok ok' : Nat → Prop} {sz : Nat} {p p' : World → Addr → α → Prop} {w w' : World} {l : List α} {A : Option Addr} (h : LIn ok sz p w l A) (hk : ∀ b, ok b → ok' b) (hp : ∀ ad x, ok ad.block → p w ad x → p' w' ad x) : LIn ok' sz p' w' l A := by
 rcases h with rfl | ⟨b, o, e, hb, h⟩
 ·exact .inl rfl
 ·exact .inr ⟨b, o, e, hk b hb, fun i x hi => hp _ x hb (h i x hi)⟩

/-- A set: four words. -/
abbrev Se := Int × Int × Int × Int
/-- An edge: to which position, by which ways. -/
abbrev Ed := Int × Int
def Se.cells (s : Se) : List Value := [.int .u64 s.1, .int .u64 s.2.1, .int .u64 s.2.2.1, .int .u64 s.2.2.2]
def Ed.cells (e : Ed) : List Value := [.int .i64 e.1, .int .i64 e.2]
def Se.wf (s : Se) : Prop := IsU64 s.1 ∧ IsU64 s.2.1 ∧ IsU64 s.2.2.1 ∧ IsU64 s.2.2.2
def Ed.wf (e : Ed) : Prop := IsI64 e.1 ∧ IsI64 e.2
def EdIn (ok : Nat → Prop) (w : World) (l : List Ed) (A : Option Addr) : Prop := LIn ok 2 (fun w ad e => CellsAt w ad (Ed.cells e)) w l A
def SeIn (ok : Nat → Prop) (w : World) (l : List Se) (A : Option Addr) : Prop := LIn ok 4 (fun w ad s => CellsAt w ad (Se.cells s)) w l A
def FoIn (ok : Nat → Prop) (w : World) (l : List (List Ed)) (A : Option Addr) : Prop := LIn ok 1 (fun w ad r => ∃ B c, CellsAt w ad [.slice B r.length c] ∧ EdIn ok w r B) w l A

section
variable {ok ok' : Nat → Prop} {w w' : World} {A : Option Addr}
theorem EdIn.same {l : List Ed} (h : EdIn ok w l A) (hs : Same ok w w') (hk : ∀ b, ok b → ok' b) : EdIn ok' w' l A := LIn.move h hk fun ad x ho hc => hc.same hs ho
theorem SeIn.same {l : List Se} (h : SeIn ok w l A) (hs : Same ok w w') (hk : ∀ b, ok b → ok' b) : SeIn ok' w' l A := LIn.move h hk fun ad x ho hc => hc.same hs ho
theorem FoIn.same {l : List (List Ed)} (h : FoIn ok w l A) (hs : Same ok w w') (hk : ∀ b, ok b → ok' b) : FoIn ok' w' l A := LIn.move h hk fun ad x ho hc => by
 obtain ⟨B, c, h1, h2⟩ := hc
 exact ⟨B, c, h1.same hs ho, h2.same hs hk⟩
end

/-- Positions. -/
structure Po where
 sets : List Se
 null : Int
 first : List Ed
 last : List Ed
 follow : List (List Ed)

/-- Where their lists lie. -/
structure PoA where
 s : Option Addr
 f : Option Addr
 l : Option Addr
 w : Option Addr
 cs : Nat
 cf : Nat
 cl : Nat
 cw : Nat

def Po.cells (p : Po) (a : PoA) : List Value := [.slice a.s p.sets.length a.cs, .int .i64 p.null, .slice a.f p.first.length a.cf, .slice a.l p.last.length a.cl, .slice a.w p.follow.length a.cw]
structure PoIn (ok : Nat → Prop) (w : World) (p : Po) (a : PoA) : Prop where
 sets : SeIn ok w p.sets a.s
 first : EdIn ok w p.first a.f
 last : EdIn ok w p.last a.l
 follow : FoIn ok w p.follow a.w
theorem PoIn.same {ok ok' : Nat → Prop} {w w' : World} {p : Po} {a : PoA} (h : PoIn ok w p a) (hs : Same ok w w') (hk : ∀ b, ok b → ok' b) : PoIn ok' w' p a := ⟨h.sets.same hs hk, h.first.same hs hk, h.last.same hs hk, h.follow.same hs hk⟩
theorem PoIn.next {w w' : World} {p : Po} {a : PoA} (h : PoIn (· < w.heap.size) w p a) (hb : Below w.heap.size w w') : PoIn (· < w'.heap.size) w' p a := h.same (same_of_below hb) fun b hx => Nat.lt_of_lt_of_le hx hb.size
structure Po.wf (p : Po) : Prop where
 null : IsI64 p.null
 sets : ∀ s ∈ p.sets, Se.wf s
 first : ∀ e ∈ p.first, Ed.wf e
 last : ∀ e ∈ p.last, Ed.wf e
 follow : ∀ l ∈ p.follow, l.length ≤ 9223372036854775807 ∧ ∀ e ∈ l, Ed.wf e
 ns : p.sets.length ≤ 9223372036854775807
 nf : p.first.length ≤ 9223372036854775807
 nl : p.last.length ≤ 9223372036854775807
 nw : p.follow.length ≤ 9223372036854775807
end Go.Proofs.YtpkcklpjbeginaaGreatDoor
