/- Byt8: Lists of bytes that a call builds by append, and the texts that they become.
Quote8: spell.Quote: a text with a backslash ahead of each mark. (Printed by gen_quote8.py.)
Rows8: octet.Rows: the rows of a set of bytes, one after the other, for any loop body over them.
Items8: spell.items: the bytes of a set, as they stand in brackets. (Printed by gen_items8.py.)
Set8: spell.set: a set's text. (Printed by gen_set8.py.) -/
import Derived.Test.YtpkcklpjbeginaaGreatDoorInts
import Derived.Test.YtpkcklpjbeginaaGreatDoorRep8
import Derived.Shelf.Bytes.SlSmallAll
import Derived.Test.YtpkcklpjbeginaaGreatDoorTxtBack8
import Derived.Test.YtpkcklpjbeginaaGreatDoorStrs
import Derived.RangeFuncNested
import Derived.RangeFuncBox
import Derived.RangeFuncLeaves
import Derived.Shelf.Abstract
import Derived.WalkKit
import Derived.OwnWalkIn
import Derived.TacticsInMore
import Derived.LoopNIn
import Derived.LoopIn
import Derived.Test.YtpkcklpjbeginaaGreatDoorClasses
import Derived.Test.YtpkcklpjbeginaaGreatDoorSpellP
set_option linter.unusedSimpArgs false
set_option linter.unusedVariables false
set_option linter.unnecessarySimpa false

/-! ## Byt8 -/
namespace Go.Proofs.YtpkcklpjbeginaaGreatDoor
open Go.RowKit

theorem Tryz.infoBy8 : (Tryz.prog.info? 5).map (fun i => (i.zero, i.size, i.bytes)) = some (some (.int .u8 0), 1, 1) := by kernel_rfl
/-- The cells of bytes. -/
def byC (l : List UInt8) : List Value := l.map fun b => Value.int .u8 (b.toNat : Int)
theorem byC_len (l : List UInt8) : (byC l).length = l.length := by simp [byC]
theorem byC_app (a b : List UInt8) : byC (a ++ b) = byC a ++ byC b := by simp [byC]
theorem byC_one (l : List UInt8) : ∀ u ∈ byC l, u.oneCell' = true := by simp [byC, Value.oneCell']
/-- The list v holds the bytes l, in memory from block base on. -/
def OwnBy (base : Nat) (w : World) (v : Value) (l : List UInt8) : Prop := w.ownsRow base 5 1 v l.length (byC l)
section
variable {base : Nat} {w w' : World} {v : Value} {l : List UInt8}
theorem OwnBy.nil (base : Nat) (w : World) : OwnBy base w (.slice none 0 0) [] := World.ownsRow_nil _ _ _ _
theorem OwnBy.same {ok : Nat → Prop} (h : OwnBy base w v l) (hs : Same ok w w') (hk : ∀ g, v.ownBlock = some g → ok g) : OwnBy base w' v l := by
 refine ⟨h.1, ?_⟩
 rcases h.2 with h | ⟨g, cap, cur, e, hb, hg, r⟩
 ·exact .inl h
 ·exact .inr ⟨g, cap, cur, e, hb, (hs g (hk g (by rw [e]; rfl))).trans hg, r⟩
theorem OwnBy.below {B : Nat} (h : OwnBy base w v l) (hb : Below B w w') (hB : w.heap.size ≤ B) : OwnBy base w' v l :=
 h.same (same_of_below hb) fun g hg => Nat.lt_of_lt_of_le (World.ownsRow.lt h g hg).2 hB
theorem OwnBy.next (h : OwnBy base w v l) (hb : Below w.heap.size w w') : OwnBy base w' v l := h.below hb (Nat.le_refl _)
theorem OwnBy.block (h : OwnBy base w v l) : ∀ g, v.ownBlock = some g → base ≤ g ∧ g < w.heap.size := fun g hg => ⟨(World.ownsRow.lt h g hg).1, (World.ownsRow.lt h g hg).2⟩
/-- The text of the bytes. -/
theorem OwnBy.text (h : OwnBy base w v l) : (convert 59 9 v).run Tryz.prog w = .ok (.string ⟨l.toArray⟩) w := by
 have h' := h
 rcases h with ⟨hl2, ⟨e2, n2⟩ | ⟨g, cap, cur, e2, hb, hgb, hn, hc, hr⟩⟩
 ·have : l = [] := List.eq_nil_of_length_eq_zero n2
  subst this
  rw [e2]
  exact run_convert_bytes_zero w 59 5 Tryz.underlying59 Tryz.underlying5 none 0 9 Tryz.underlying9
 ·have hcl := World.ownsRow.cells h' (g := g) (by rw [e2]; rfl)
  rw [e2]
  refine run_convert_bytes_back w 59 9 5 ⟨g, 0, none⟩ cap l Tryz.underlying59 Tryz.underlying5 Tryz.underlying9 fun j hj => ?_
  exact hcl j _ (by simp [byC, List.getElem?_eq_getElem hj])
end
/-- Some bytes more. -/
theorem wpList_push_bytes {w : World} {ops : Array Oper} {rest : List Oper} {o : Oper} {a : Act} {Q : Exit → Act → World → Prop} (hgd : o.guard = none) (s x : Operand) (ho : o.op = .call { callee := .builtin .append, args := #[s, x], argTypes := #[59, 59] })
  (base : Nat) (v : Value) (l : List UInt8) (hs : a.eval s = v) (hg : OwnBy base w v l) (cs : List UInt8) (g cap : Nat)
  (hx : a.eval x = .slice (some ⟨g, 0, none⟩) cs.length cap) (hb : Blk w g 5 (byC cs).toArray) (hl : l.length + cs.length ≤ 1000000) (hbase : base ≤ w.heap.size)
  (h : ∀ v' w', OwnBy base w' v' (l ++ cs) → w.grownBy w' v.ownBlock → (v'.ownBlock = v.ownBlock ∨ v'.ownBlock = some w.heap.size) → wpList Tryz.prog ops Q rest (a.put o.dst v') w') : wpList Tryz.prog ops Q (o :: rest) a w := by
 obtain ⟨i, hi, hz0, hz1, hz2⟩ := info_parts Tryz.infoBy8
 refine wpList_append_own_at w hgd s x 59 ho base 5 i _ 1 1 Tryz.underlying59 hi hz0 hz1 hz2 rfl (by decide) v l.length _ hs hg ⟨g, 0, none⟩ cs.length cap (byC cs) hx (by rw [byC_len]; omega) ?_ (byC_one cs) (by simp only [maxLen]; omega) (by omega) hbase ?_
 ·intro j u hu
  rw [Addr.add_lit, Nat.zero_add, hb.cell]
  simpa using hu
 intro v' w' hown hgr _ h4
 refine h v' w' ?_ hgr h4
 show World.ownsRow _ _ _ _ _ _ _
 rw [List.length_append, byC_app]
 exact hown
theorem below_grown9 {B : Nat} {w wr w' : World} {row : Option Nat} (h : Below B w wr) (hg : wr.grownBy w' row) (hB : B ≤ w.heap.size) (hr : ∀ g, row = some g → B ≤ g) : Below B w w' :=
 ⟨hg.os.trans h.os, hg.tape.trans h.tape, hg.output.trans h.output, Nat.le_trans h.size hg.size, fun b hb => (hg.block b (by have := h.size; omega) (fun e => by have := hr b e.symm; omega)).trans (h.block b hb)⟩
end Go.Proofs.YtpkcklpjbeginaaGreatDoor

/-! ## Quote8 -/
namespace Go.Proofs.YtpkcklpjbeginaaGreatDoor
open Go.RowKit

theorem idx_markB : ∀ b : Fin 256, decide (0 ≤ Lib.indexByte [46, 91, 42, 94, 36, 92] b.val.toUInt8) = markB b.val := by decide +kernel
theorem idx_markE : ∀ b : Fin 256, decide (0 ≤ Lib.indexByte [46, 91, 40, 41, 42, 43, 63, 123, 124, 94, 36, 92] b.val.toUInt8) = markE b.val := by decide +kernel
theorem quoteL_snoc (mk : Nat → Bool) (b : UInt8) : ∀ l : List UInt8, quoteL mk (l ++ [b]) = quoteL mk l ++ (if mk b.toNat then [92, b] else [b])
 | [] => by simp [quoteL]
 | a :: l => by rw [List.cons_append, quoteL, quoteL_snoc mk b l, quoteL, List.append_assoc]
theorem take_byte {s : ByteArray} {k : Nat} (h : k < s.size) : s.data.toList.take (k + 1) = s.data.toList.take k ++ [s[k]'h] := by
 have hl : k < s.data.toList.length := by rw [data_len]; exact h
 rw [List.take_succ_eq_append_getElem hl]
 congr 2
/-- What the marks of a kind of patterns are, by the library's search. -/
structure MkIs (all : ByteArray) (mk : Nat → Bool) : Prop where
 is : ∀ b : Nat, b < 256 → decide (0 ≤ Lib.indexByte all.data.toList b.toUInt8) = mk b
set_option maxRecDepth 100000 in
set_option maxHeartbeats 4000000 in
theorem quote8_any (s : ByteArray) (fl : Int) (w : World) (hs : s.size ≤ 200000) : Calls Tryz.prog 23 #[.string s, .int .i64 fl] w fun e w' => e = .returned (.string (quoteS (if bits .and .i64 fl 1 = 0 then markB else markE) s)) ∧ Below w.heap.size w w' := by
 obtain ⟨res, hres⟩ : ∃ r, r = quoteS (if bits .and .i64 fl 1 = 0 then markB else markE) s := ⟨_, rfl⟩
 rw [← hres]
 go_enter Tryz.func23, Tryz.ntmps23
 obtain ⟨fb, hfb⟩ : ∃ fb, fb = bits .and .i64 fl 1 := ⟨_, rfl⟩
 have HFB := hide hfb
 rw [← hfb] at hres
 go_upto_region 2 with fail
 go_upto_if 10 with fail
 rw [← HFB.out]
 go_cut [5] (fun z wx => ∃ (all : ByteArray) (mk : Nat → Bool), z = .string all ∧ MkIs all mk ∧ res = quoteS mk s ∧ wx = w)
 case first =>
  by_cases h0 : fb = 0
  ·have g0 : (fb != 0) = false := by rw [h0]; rfl
   have HE := hide (show res = quoteS markB s from by rw [hres, if_pos h0])
   clear hres hfb HFB
   go_wp2_with fail
   go_meet
   case rel => exact ⟨_, _, rfl, ⟨fun b hb => idx_markB ⟨b, hb⟩⟩, HE.out, rfl⟩
  ·have g0 : (fb != 0) = true := by simp [h0]
   have HE := hide (show res = quoteS markE s from by rw [hres, if_neg h0])
   clear hres hfb HFB
   go_wp2_with fail
   go_meet
   case rel => exact ⟨_, _, rfl, ⟨fun b hb => idx_markE ⟨b, hb⟩⟩, HE.out, rfl⟩
 case rest =>
 obtain ⟨all, mk, rfl, hmk, hr, hwc⟩ := hcut
 obtain rfl := hwc.symm
 have HE := hide hr
 have HMK := hide hmk
 clear hres hr hmk hfb HFB
 go_wp2_with fail
 go_loopw [6, 13] (fun bv kv wr => ∃ (k : Nat) (l : List UInt8), kv = .int .i64 (k : Int) ∧ k ≤ s.size ∧ OwnBy w.heap.size wr bv l ∧ l = quoteL mk (s.data.toList.take k) ∧ Below w.heap.size w wr) (fun _ kv _ => s.size - (intOf kv).toNat)
 case atStart => exact ⟨0, [], rfl, Nat.zero_le _, OwnBy.nil _ _, rfl, Below.refl _ _⟩
 case round =>
  obtain ⟨k, l, rfl, hk, hown, hl, hbel⟩ := hrel
  have hll : l.length ≤ 2 * k := by
   have h1 := quoteL_len mk (s.data.toList.take k)
   rw [hl]
   rw [List.length_take] at h1
   omega
  have HH := hide (And.intro hown (And.intro hbel hl))
  clear hown hbel hl
  by_cases hlt : k < s.size
  ·have g1 : decide ((k : Int) < (s.size : Int)) = true := decide_eq_true (by omega)
   have hsn := take_byte hlt
   obtain ⟨b, hb⟩ : ∃ b, b = s[k]'hlt := ⟨_, rfl⟩
   rw [← hb] at hsn
   have HSN := hide hsn
   have hbn : (s[k]'hlt).toNat = b.toNat := by rw [hb]
   have hblt : b.toNat < 256 := b.toNat_lt
   have HIX := hide (fun (y : World) => indexByte_any all ((b.toNat : Nat) : Int) y)
   have hmkb := HMK.out.is b.toNat hblt
   have hu8 : ((b.toNat : Nat) : Int).toNat.toUInt8 = b.toNat.toUInt8 := by rw [Int.toNat_natCast]
   rw [hu8] at HIX
   obtain ⟨ix, hix⟩ : ∃ ix, ix = Lib.indexByte all.data.toList b.toNat.toUInt8 := ⟨_, rfl⟩
   rw [← hix] at HIX hmkb
   clear hix hsn hu8
   go_wp2_with fail
   refine (HIX.out _).mono ?_
   rintro e w2 ⟨rfl, hw2⟩
   obtain rfl := hw2.symm
   clear HIX
   cases hm : mk b.toNat with
   | false =>
    rw [hm] at hmkb
    have HL2 := hide (show l ++ [b] = quoteL mk (s.data.toList.take (k + 1)) from by rw [HSN.out, quoteL_snoc, hm, HH.out.2.2]; rfl)
    clear hm
    go_upto_region 10 with fail
    go_wp2_with (at_builtin; refine wpList_push_bytes rfl _ _ rfl w.heap.size _ l rfl (HH.out.1.next ((Below.refl _ _).alloc (Nat.le_refl _) _)) [b] _ _ rfl (Blk.new _ _ _) (by simp; omega) (by have := HH.out.2.1.size; first | omega | (simp only [World.size_alloc]; omega) | (simp; omega)) ?_; intro v5 w5 hown5 hg5 hv5)
    have hbw := below_grown9 (HH.out.2.1.alloc HH.out.2.1.size (.cells #[.int .u8 (b.toNat : Int)] 5)) hg5 (by have := HH.out.2.1.size; first | omega | (simp only [World.size_alloc]; omega) | (simp; omega)) (fun g hg => (HH.out.1.block g hg).1)
    have HN := hide (And.intro hown5 hbw)
    clear hown5 hg5 hv5 hbw
    go_wp2_with fail
    go_roundw
    case rel => exact ⟨k + 1, l ++ [b], by go_num, hlt, HN.out.1, HL2.out, HN.out.2⟩
    case measure => simp [intOf]; omega
   | true =>
    rw [hm] at hmkb
    have HL2 := hide (show (l ++ [92]) ++ [b] = quoteL mk (s.data.toList.take (k + 1)) from by rw [HSN.out, quoteL_snoc, hm, HH.out.2.2, List.append_assoc]; rfl)
    clear hm
    go_upto_region 10 with (at_builtin; refine wpList_push_bytes rfl _ _ rfl w.heap.size _ l rfl (HH.out.1.next ((Below.refl _ _).alloc (Nat.le_refl _) _)) [92] _ _ rfl (Blk.new _ _ _) (by simp; omega) (by have := HH.out.2.1.size; first | omega | (simp only [World.size_alloc]; omega) | (simp; omega)) ?_; intro v5 w5 hown5 hg5 hv5)
    have hbw := below_grown9 (HH.out.2.1.alloc HH.out.2.1.size (.cells #[.int .u8 92] 5)) hg5 (by have := HH.out.2.1.size; first | omega | (simp only [World.size_alloc]; omega) | (simp; omega)) (fun g hg => (HH.out.1.block g hg).1)
    have HN := hide (And.intro hown5 hbw)
    clear hown5 hg5 hv5 hbw
    go_wp2_with (at_builtin; refine wpList_push_bytes rfl _ _ rfl w.heap.size _ (l ++ [92]) rfl (HN.out.1.next ((Below.refl _ _).alloc (Nat.le_refl _) _)) [b] _ _ rfl (Blk.new _ _ _) (by simp; omega) (by have := HN.out.2.size; first | omega | (simp only [World.size_alloc]; omega) | (simp; omega)) ?_; intro v6 w6 hown6 hg6 hv6)
    have hbw := below_grown9 (HN.out.2.alloc HN.out.2.size (.cells #[.int .u8 (b.toNat : Int)] 5)) hg6 (by have := HN.out.2.size; first | omega | (simp only [World.size_alloc]; omega) | (simp; omega)) (fun g hg => (HN.out.1.block g hg).1)
    have HN2 := hide (And.intro hown6 hbw)
    clear hown6 hg6 hv6 hbw
    go_wp2_with fail
    go_roundw
    case rel => exact ⟨k + 1, (l ++ [92]) ++ [b], by go_num, hlt, HN2.out.1, HL2.out, HN2.out.2⟩
    case measure => simp [intOf]; omega
  ·have g1 : decide ((k : Int) < (s.size : Int)) = false := decide_eq_false (by omega)
   have he : l = quoteL mk s.data.toList := by
    rw [HH.out.2.2, show k = s.data.toList.length by rw [data_len]; omega, List.take_length]
   have hcv := HH.out.1.text
   rw [he] at hcv
   rw [show (⟨(quoteL mk s.data.toList).toArray⟩ : ByteArray) = res from by rw [HE.out]; rfl] at hcv
   clear he
   go_wp2_with fail
   go_ret
   exact ⟨rfl, HH.out.2.1⟩
end Go.Proofs.YtpkcklpjbeginaaGreatDoor

/-! ## Rows8 -/
namespace Go.Proofs.YtpkcklpjbeginaaGreatDoor
open Go.RowKit Go.Shelf
attribute [local go_sem] Oper.semAt_some

/-- A row of bytes. -/
abbrev Row8 := { x : Nat × Nat // x.1 ≤ x.2 ∧ x.2 < 256 }
def encR (x : Row8) : Array Value := #[.int .u8 (x.1.1 : Int), .int .u8 (x.1.2 : Int)]
/-- The text of rows. -/
def catR : List Row8 → List UInt8
 | [] => []
 | x :: l => (rowT x.1.1 x.1.2).data.toList ++ catR l
theorem catR_snoc (x : Row8) : ∀ l : List Row8, catR (l ++ [x]) = catR l ++ (rowT x.1.1 x.1.2).data.toList
 | [] => by simp [catR]
 | y :: l => by rw [List.cons_append, catR, catR_snoc x l, catR, List.append_assoc]
theorem grownBy_none {w w' : World} (h : Below w.heap.size w w') : w.grownBy w' none := ⟨h.os, h.tape, h.output, h.size, fun k hk _ => h.block k hk⟩
theorem wrapU8 {b : Nat} (h : b < 256) : IntKind.u8.wrap (b : Int) = (b : Int) := by rw [IntKind.wrap_u8']; omega
/-- A block lies as it lay. -/
def KeepB (g : Nat) (A B : World) : Prop := B.heap[g]? = A.heap[g]?
set_option maxRecDepth 100000 in
set_option maxHeartbeats 4000000 in
theorem rows8_stops (n : Nat) (hn : 1 ≤ n) (Bn : Nat) (S : Nat → Bool) (w : World) (hb : Blk w Bn 24 #[.int .u64 ((wd S 0 : Nat) : Int), .int .u64 ((wd S 1 : Nat) : Int), .int .u64 ((wd S 2 : Nat) : Int), .int .u64 ((wd S 3 : Nat) : Int)]) :
  SeqStopsK Fence.wide n Tryz.prog 144 #[.pointer (some ⟨Bn, 0, none⟩)] encR (KeepB Bn) (fun ys => catR ys = (rowsFrom S 0).data.toList) (fun _ => True) 256 w := fun l J Jx W hW hJ hJx hY h0 => by
 have hb0 : Blk W Bn 24 #[.int .u64 ((wd S 0 : Nat) : Int), .int .u64 ((wd S 1 : Nat) : Int), .int .u64 ((wd S 2 : Nat) : Int), .int .u64 ((wd S 3 : Nat) : Int)] := hb.below hW hb.lt
 have HJ := hide (fun (s : List Row8) (A B : World) (hs : J s A) (h : Below A.heap.size A B) => hJ s A B none hs (grownBy_none h) (fun r e => by cases e))
 have HY := hide hY
 have HB := hide hb0
 have H00 := hide h0
 clear hY hJ hJx h0 hb0 hW hb
 refine callsIn_of_wp Tryz.func144 rfl trivial ?_ rfl
 simp only [Tryz.ntmps144, List.size_toArray, List.length_cons, List.length_nil, Nat.reduceAdd, Nat.reduceSub, Array.replicate_succ, Array.replicate_zero, List.push_toArray, List.append_toArray, List.nil_append, List.cons_append]
 gi_wp2
 gi_loopw [3] (fun bv wr => ∃ (b : Nat) (pre : List Row8), bv = .int .i64 (b : Int) ∧ b ≤ 256 ∧ pre.length ≤ b ∧ catR pre ++ (rowsFrom S b).data.toList = (rowsFrom S 0).data.toList ∧ J pre wr ∧ Blk wr Bn 24 #[.int .u64 ((wd S 0 : Nat) : Int), .int .u64 ((wd S 1 : Nat) : Int), .int .u64 ((wd S 2 : Nat) : Int), .int .u64 ((wd S 3 : Nat) : Int)]) (fun bv _ => 256 - (intOf bv).toNat)
 case atStart => exact ⟨0, [], rfl, Nat.zero_le _, Nat.zero_le _, rfl, H00.out, HB.out⟩
 case round =>
  obtain ⟨b, pre, rfl, hb, hpl, hcat, hJs, hblk⟩ := hrel
  have HC := hide hcat
  have HJS := hide hJs
  have HBL := hide hblk
  clear hcat hJs hblk
  by_cases hlt : b < 256
  ·have g1 : decide ((b : Int) < 256) = true := decide_eq_true (by omega)
   have g2 : IntKind.u8.wrap (b : Int) = (b : Int) := wrapU8 hlt
   have cs := HBL.out.cell
   have HS := hide (fun (y : World) => callsIn_wide (n := n - 1).2 (has5_any S b hlt y))
   unfold setV setC at HS
   cases hSb : S b with
   | false =>
    rw [hSb] at HS
    have HK := hide (rowsFrom_skip (P := S) (b := b) (by omega) hSb)
    gi_wp2
    refine ⟨trivial, (HS.out _).mono ?_⟩
    rintro e w2 ⟨rfl, hb2⟩
    have HJ2 := hide (And.intro (HJ.out _ _ _ HJS.out hb2) (Blk.below HBL.out hb2 (Blk.lt HBL.out)))
    clear hb2
    gi_wp2
    go_roundw
    case rel => exact ⟨b + 1, pre, by go_num, hlt, by omega, by rw [← HK.out]; exact HC.out, HJ2.out.1, HJ2.out.2⟩
    case measure => simp [intOf]; omega
   | true =>
    rw [hSb] at HS
    have HSB := hide hSb
    clear hSb
    gi_wp2
    refine ⟨trivial, (HS.out _).mono ?_⟩
    rintro e w2 ⟨rfl, hb2⟩
    have HJ2 := hide (And.intro (HJ.out _ _ _ HJS.out hb2) (Blk.below HBL.out hb2 (Blk.lt HBL.out)))
    clear hb2 cs HS g1 g2
    gi_wp2
    gi_loopw [3] (fun ev wr => ∃ (e : Nat), ev = .int .i64 (e : Int) ∧ b ≤ e ∧ e ≤ 255 ∧ rowEnd S 256 b = rowEnd S 256 e ∧ J pre wr ∧ Blk wr Bn 24 #[.int .u64 ((wd S 0 : Nat) : Int), .int .u64 ((wd S 1 : Nat) : Int), .int .u64 ((wd S 2 : Nat) : Int), .int .u64 ((wd S 3 : Nat) : Int)]) (fun ev _ => 256 - (intOf ev).toNat)
    case atStart => exact ⟨b, rfl, Nat.le_refl _, by omega, rfl, HJ2.out.1, HJ2.out.2⟩
    case round =>
     obtain ⟨e, rfl, he1, he2, hre, hJs, hblk⟩ := hrel
     have HRE := hide hre
     have HJE := hide (And.intro hJs hblk)
     clear hre hJs hblk
     have e2 : IntKind.u8.wrap (b : Int) = (b : Int) := wrapU8 hlt
     have e3 : IntKind.u8.wrap (e : Int) = (e : Int) := wrapU8 (by omega)
     by_cases hle : e < 255
     ·have g1 : decide ((e : Int) < 255) = true := decide_eq_true (by omega)
      have cs := HJE.out.2.cell
      have g3 : IntKind.u8.wrap ((e : Int) + 1) = (e : Int) + 1 := by have := wrapU8 (b := e + 1) (by omega); simpa using this
      have HS := hide (fun (y : World) => callsIn_wide (n := n - 1).2 (has5_any S (e + 1) (by omega) y))
      unfold setV setC at HS
      rw [show ((e + 1 : Nat) : Int) = (e : Int) + 1 by omega] at HS
      gi_wp2
      refine ⟨trivial, (HS.out _).mono ?_⟩
      rintro e' w3 ⟨rfl, hb3⟩
      have HJ3 := hide (And.intro (HJ.out _ _ _ HJE.out.1 hb3) (Blk.below HJE.out.2 hb3 (Blk.lt HJE.out.2)))
      clear hb3 cs HS
      cases hSe : S (e + 1) with
      | true =>
       have HST := hide (rowEnd_step hle hSe)
       clear hSe
       gi_wp2
       go_roundw
       case rel => exact ⟨e + 1, by go_num, by omega, by omega, by rw [← HST.out]; exact HRE.out, HJ3.out.1, HJ3.out.2⟩
       case measure => simp [intOf]; omega
      | false =>
       have hend : rowEnd S 256 b = e := by rw [HRE.out]; exact rowEnd_stop (fun h => by rw [hSe] at h; cases h.2)
       obtain ⟨fn, tmps, assign, body, hy, hR⟩ := HY.out pre ⟨(b, e), he1, by omega⟩ w3 HJ3.out.1 (by omega)
       have hblk3 := HJ3.out.2
       dsimp only [encR] at hy
       gi_wp2
       refine hR.mono ?_
       rintro e' W3 (⟨rfl, hJ3, hk3⟩ | ⟨rfl, hJx3⟩)
       ·have hB3 : Blk W3 Bn 24 #[.int .u64 ((wd S 0 : Nat) : Int), .int .u64 ((wd S 1 : Nat) : Int), .int .u64 ((wd S 2 : Nat) : Int), .int .u64 ((wd S 3 : Nat) : Int)] := Eq.trans hk3 hblk3
        gi_wp2
        go_roundw
        case rel =>
         refine ⟨e + 1, pre ++ [⟨(b, e), he1, by omega⟩], by go_num, by omega, by rw [List.length_append, List.length_singleton]; omega, ?_, hJ3, hB3⟩
         rw [catR_snoc, ← HC.out, rowsFrom_row (by omega) HSB.out, hend, app_toList, List.append_assoc]
        case measure => simp [intOf]; omega
       ·gi_wp2
        refine bodyPost_ret (results_none rfl _ _ _) rfl ?_
        exact ⟨⟨_, rfl⟩, .inr ⟨_, trivial, hJx3⟩⟩
     ·have g1 : decide ((e : Int) < 255) = false := decide_eq_false (by omega)
      have hend : rowEnd S 256 b = e := by rw [HRE.out]; exact rowEnd_stop (fun h => hle h.1)
      obtain ⟨fn, tmps, assign, body, hy, hR⟩ := HY.out pre ⟨(b, e), he1, by omega⟩ wr HJE.out.1 (by omega)
      have hblk3 := HJE.out.2
      dsimp only [encR] at hy
      gi_wp2
      refine ⟨trivial, ?_⟩
      gi_wp2
      refine hR.mono ?_
      rintro e' W3 (⟨rfl, hJ3, hk3⟩ | ⟨rfl, hJx3⟩)
      ·have hB3 : Blk W3 Bn 24 #[.int .u64 ((wd S 0 : Nat) : Int), .int .u64 ((wd S 1 : Nat) : Int), .int .u64 ((wd S 2 : Nat) : Int), .int .u64 ((wd S 3 : Nat) : Int)] := Eq.trans hk3 hblk3
       gi_wp2
       go_roundw
       case rel =>
        refine ⟨e + 1, pre ++ [⟨(b, e), he1, by omega⟩], by go_num, by omega, by rw [List.length_append, List.length_singleton]; omega, ?_, hJ3, hB3⟩
        rw [catR_snoc, ← HC.out, rowsFrom_row (by omega) HSB.out, hend, app_toList, List.append_assoc]
       case measure => simp [intOf]; omega
      ·gi_wp2
       refine bodyPost_ret (results_none rfl _ _ _) rfl ?_
       exact ⟨⟨_, rfl⟩, .inr ⟨_, trivial, hJx3⟩⟩
  ·have g1 : decide ((b : Int) < 256) = false := decide_eq_false (by omega)
   gi_wp2
   go_end0
   refine ⟨⟨_, rfl⟩, .inl ⟨pre, ?_, HJS.out⟩⟩
   have := HC.out
   rw [rowsFrom_end (by omega)] at this
   simpa using this
end Go.Proofs.YtpkcklpjbeginaaGreatDoor

/-! ## Items8 -/
namespace Go.Proofs.YtpkcklpjbeginaaGreatDoor
open Go.RowKit Go.Shelf
attribute [local go_sem] Oper.semAt_some

theorem four_any8 (x : Nat) : ([93, 91, 94, 45].any fun b => decide (x = b)) = fourB x := by
 have h : ∀ n : Nat, (x == n) = decide (x = n) := fun n => by by_cases e : x = n <;> simp [e]
 simp only [List.any_cons, List.any_nil, Bool.or_false, fourB, h, Bool.or_assoc]
theorem text_eta (x : ByteArray) : (⟨x.data.toList.toArray⟩ : ByteArray) = x := by cases x; simp
theorem items_list8 (S : Nat → Bool) : (itemsP S).data.toList = (optB (S 93) 93).data.toList ++ ((rowsFrom (fun b => S b && !fourB b) 0).data.toList ++ ((optB (S 91) 91).data.toList ++ ((optB (S 94) 94).data.toList ++ (optB (S 45) 45).data.toList))) := by
 unfold itemsP rowsFrom
 rw [app_toList, app_toList, app_toList, app_toList]
 simp only [List.append_assoc]
theorem four_in {y : World} {g : Nat} (hb : Blk y g 5 #[.int .u8 93, .int .u8 91, .int .u8 94, .int .u8 45]) : BytesIn y [93, 91, 94, 45] (some ⟨g, 0, none⟩) := fun i x hi => by
 have h4 : i < 4 := (List.getElem?_eq_some_iff.1 hi).1
 have hc := hb.cell i
 obtain rfl | rfl | rfl | rfl : i = 0 ∨ i = 1 ∨ i = 2 ∨ i = 3 := by omega
 ·obtain rfl : x = 93 := by simpa using hi.symm
  exact ⟨by decide, g, 0, rfl, hb.lt, hc⟩
 ·obtain rfl : x = 91 := by simpa using hi.symm
  exact ⟨by decide, g, 0, rfl, hb.lt, hc⟩
 ·obtain rfl : x = 94 := by simpa using hi.symm
  exact ⟨by decide, g, 0, rfl, hb.lt, hc⟩
 ·obtain rfl : x = 45 := by simpa using hi.symm
  exact ⟨by decide, g, 0, rfl, hb.lt, hc⟩
theorem OwnBy.some_ {base : Nat} {w : World} {v : Value} {l : List UInt8} (h : OwnBy base w v l) (hl : l ≠ []) : ∃ g c, v = .slice (some ⟨g, 0, none⟩) l.length c := by
 rcases h.2 with ⟨_, n⟩ | ⟨g, cap, cur, e, _⟩
 ·exact absurd (List.eq_nil_of_length_eq_zero n) hl
 ·exact ⟨g, cap, e⟩
theorem OwnBy.some3 {base : Nat} {w : World} {v : Value} {l : List UInt8} (h : OwnBy base w v l) (hl : l ≠ []) : ∃ m g c, Hid (m = l.length) ∧ v = .slice (some ⟨g, 0, none⟩) m c := by
 obtain ⟨g, c, e⟩ := h.some_ hl
 exact ⟨_, g, c, rfl, e⟩
theorem OwnBy.grown {base : Nat} {w w' : World} {v : Value} {l : List UInt8} {row : Option Nat} (h : OwnBy base w v l) (hg : w.grownBy w' row) (hne : ∀ g, v.ownBlock = some g → some g ≠ row) : OwnBy base w' v l :=
 h.same (ok := fun b => b < w.heap.size ∧ some b ≠ row) (fun b hb => hg.block b hb.1 hb.2) (fun g hgv => ⟨(h.block g hgv).2, hne g hgv⟩)
theorem OwnBy.cells_at {base : Nat} {w : World} {v : Value} {l : List UInt8} {g : Nat} (h : OwnBy base w v l) (hg : v.ownBlock = some g) : ∃ cur, Blk w g 5 cur := by
 rcases h.2 with ⟨e1, _⟩ | ⟨g2, cap, cur, e1, _, hb, _⟩
 ·rw [e1] at hg; cases hg
 ·rw [e1] at hg
  obtain rfl : g2 = g := by simpa [Value.ownBlock] using hg
  exact ⟨cur, hb⟩
theorem OwnBy.not_type {base : Nat} {w : World} {v : Value} {l : List UInt8} (h : OwnBy base w v l) {g : Nat} {t : TypeId} {cs : Array Value} (hb : Blk w g t cs) (ht : t ≠ 5) : some g ≠ v.ownBlock := fun e => by
 rcases h.2 with ⟨e1, _⟩ | ⟨g2, cap, cur, e1, _, hg, _⟩
 ·rw [e1] at e; cases e
 ·rw [e1] at e
  obtain rfl : g = g2 := by simpa [Value.ownBlock] using e
  have h1 := (show w.heap[g]? = _ from hb).symm.trans hg
  injection h1 with h1
  injection h1 with _ h1
  exact ht h1
/-- A list in a box: some bytes more, and stored. -/
theorem push_box {W w1 : World} {n₀ B : Nat} {v v' : Value} {l l' : List UInt8} {tmp : Obj} (hv : Blk W B 59 #[v]) (hrow : OwnBy n₀ W v l) (hn : n₀ ≤ W.heap.size) (hB : n₀ ≤ B) (hown : OwnBy n₀ w1 v' l') (hg : (W.alloc tmp).grownBy w1 v.ownBlock) :
  Blk w1 B 59 #[v] ∧ Blk (w1.setCell ⟨B, 0, none⟩ v') B 59 #[v'] ∧ OwnBy n₀ (w1.setCell ⟨B, 0, none⟩ v') v' l' ∧ KeepsOthers W (w1.setCell ⟨B, 0, none⟩ v') ∧ Below n₀ W (w1.setCell ⟨B, 0, none⟩ v') ∧ ∀ (g : Nat) (t : TypeId) (cs : Array Value), Blk W g t cs → t ≠ 5 → g ≠ B → Blk (w1.setCell ⟨B, 0, none⟩ v') g t cs := by
 obtain ⟨h1, h2, h3, h4, h5⟩ := Boxed.appended (W := W) (w1 := w1) (n₀ := n₀) (B := B) (t := 59) (e := 5) (tmp := tmp) hv (by decide) hrow hn hB hown hg
 exact ⟨h1, h2, h3, h4, h5, fun g t cs hb ht hne => Blk.far (p := ⟨B, 0, none⟩) ((hb.alloc tmp).grown hg (hrow.not_type hb ht)) hne v'⟩
/-- The marks at the end, so many of them. -/
def optsL (S : Nat → Bool) : Nat → List UInt8
 | 0 => []
 | 1 => (optB (S 91) 91).data.toList
 | 2 => (optB (S 91) 91).data.toList ++ (optB (S 94) 94).data.toList
 | _ => (optB (S 91) 91).data.toList ++ ((optB (S 94) 94).data.toList ++ (optB (S 45) 45).data.toList)
theorem optB_len8 (b : Bool) (n : Nat) : (optB b n).data.toList.length ≤ 1 := by cases b <;> first | exact Nat.zero_le _ | exact Nat.le_refl 1
theorem rowT_len8 (lo hi : Nat) : (rowT lo hi).data.toList.length ≤ 3 := by
 unfold rowT
 split
 ·exact (by decide : (1 : Nat) ≤ 3)
 ·split
  ·rw [app_toList]; exact (by decide : (2 : Nat) ≤ 3)
  ·rw [app_toList, app_toList]; exact Nat.le_refl 3
theorem optsL_len (S : Nat → Bool) : ∀ k : Nat, (optsL S k).length ≤ 3
 | 0 => Nat.zero_le _
 | 1 => by have := optB_len8 (S 91) 91; simp only [optsL]; omega
 | 2 => by have := optB_len8 (S 91) 91; have := optB_len8 (S 94) 94; simp only [optsL, List.length_append]; omega
 | k + 3 => by have := optB_len8 (S 91) 91; have := optB_len8 (S 94) 94; have := optB_len8 (S 45) 45; simp only [optsL, List.length_append]; omega
theorem rowsT_len (P : Nat → Bool) : ∀ n b, (rowsT P n b).data.toList.length ≤ 3 * n
 | 0, b => Nat.le_refl _
 | n + 1, b => by
  rw [rowsT]
  split
  ·exact Nat.zero_le _
  ·split
   ·have h1 := rowsT_len P n (rowEnd P 256 b + 1)
    have h2 := rowT_len8 b (rowEnd P 256 b)
    rw [app_toList, List.length_append]; omega
   ·have h1 := rowsT_len P n (b + 1); omega
theorem rowsFrom_len (P : Nat → Bool) : (rowsFrom P 0).data.toList.length ≤ 768 := rowsT_len P 256 0
theorem items_len8 (S : Nat → Bool) : (itemsP S).size ≤ 800 := by
 have h0 : (itemsP S).size = (itemsP S).data.toList.length := Array.length_toList.symm
 have h1 := rowsFrom_len (fun b => S b && !fourB b)
 have h2 := optB_len8 (S 93) 93
 have h3 := optB_len8 (S 91) 91
 have h4 := optB_len8 (S 94) 94
 have h5 := optB_len8 (S 45) 45
 rw [h0, items_list8]
 simp only [List.length_append]
 omega
theorem wpListIn_push_bytes {F : Fence} {n : Nat} {w : World} {ops : Array Oper} {rest : List Oper} {o : Oper} {a : Act} {Q : Exit → Act → World → Prop} (hgd : o.guard = none) (s x : Operand) (ho : o.op = .call { callee := .builtin .append, args := #[s, x], argTypes := #[59, 59] })
  (base : Nat) (v : Value) (l : List UInt8) (hs : a.eval s = v) (hg : OwnBy base w v l) (cs : List UInt8) (g cap : Nat)
  (hx : a.eval x = .slice (some ⟨g, 0, none⟩) cs.length cap) (hb : Blk w g 5 (byC cs).toArray) (hl : l.length + cs.length ≤ 1000000) (hbase : base ≤ w.heap.size)
  (h : ∀ v' w', OwnBy base w' v' (l ++ cs) → w.grownBy w' v.ownBlock → wpListIn F n Tryz.prog ops Q rest (a.put o.dst v') w') : wpListIn F n Tryz.prog ops Q (o :: rest) a w := by
 obtain ⟨i, hi, hz0, hz1, hz2⟩ := info_parts Tryz.infoBy8
 refine wpListIn_append_own w hgd s x 59 ho base 5 i _ 1 1 Tryz.underlying59 hi hz0 hz1 hz2 rfl (by decide) v l.length _ hs hg ⟨g, 0, none⟩ cs.length cap (byC cs) hx (by rw [byC_len]; omega) ?_ (byC_one cs) (by simp only [maxLen]; omega) (by omega) hbase ?_
 ·intro j u hu
  rw [Addr.add_lit, Nat.zero_add, hb.cell]
  simpa using hu
 intro v' w' hown hgr _
 refine h v' w' ?_ hgr
 show World.ownsRow _ _ _ _ _ _ _
 rw [List.length_append, byC_app]
 exact hown
theorem u8n8 {b : Nat} (h : b < 256) : b.toUInt8.toNat = b := by
 show (UInt8.ofNat b).toNat = b
 rw [UInt8.toNat_ofNat']; omega
theorem byC_cons {b : Nat} (h : b < 256) (l : List UInt8) : byC (b.toUInt8 :: l) = .int .u8 (b : Int) :: byC l := by
 show Value.int .u8 (b.toUInt8.toNat : Int) :: byC l = _
 rw [u8n8 h]
theorem rowT_one (lo : Nat) : (rowT lo lo).data.toList = [lo.toUInt8] := by unfold rowT; rw [if_pos rfl]; rfl
theorem rowT_two (lo : Nat) : (rowT lo (lo + 1)).data.toList = [lo.toUInt8, (lo + 1).toUInt8] := by unfold rowT; rw [if_neg (by omega), if_pos rfl, app_toList]; rfl
theorem rowT_more {lo hi : Nat} (h : lo + 2 ≤ hi) : (rowT lo hi).data.toList = [lo.toUInt8, (45 : Nat).toUInt8, hi.toUInt8] := by unfold rowT; rw [if_neg (by omega), if_neg (by omega), app_toList, app_toList]; rfl
theorem rowT_len (lo hi : Nat) : (rowT lo hi).data.toList.length ≤ 3 := by
 unfold rowT
 split
 ·exact (by decide : (1 : Nat) ≤ 3)
 ·split
  ·rw [app_toList]; exact (by decide : (2 : Nat) ≤ 3)
  ·rw [app_toList, app_toList]; exact Nat.le_refl 3
theorem catR_len : ∀ l : List Row8, (catR l).length ≤ 3 * l.length
 | [] => Nat.le_refl _
 | x :: l => by
  have h1 := catR_len l
  have h2 := rowT_len x.1.1 x.1.2
  rw [catR, List.length_append, List.length_cons]
  omega
theorem optB_len (b : Bool) (n : Nat) : (optB b n).data.toList.length ≤ 1 := by cases b <;> first | exact Nat.zero_le _ | exact Nat.le_refl 1
set_option maxRecDepth 100000 in
set_option maxHeartbeats 1000000 in
theorem Rows8_any (S : Nat → Bool) (w : World) : Calls Tryz.prog 123 #[setV S] w fun e w' => e = .returned (.func (.func 144) #[] #[.pointer (some ⟨w.heap.size, 0, none⟩)]) ∧ w' = w.alloc (.cells #[.int .u64 ((wd S 0 : Nat) : Int), .int .u64 ((wd S 1 : Nat) : Int), .int .u64 ((wd S 2 : Nat) : Int), .int .u64 ((wd S 3 : Nat) : Int)] 24) := by
 have hmf : ∀ (fn : Fn) (first cap : Array Value) (w : World), (Instr.makeFunc fn first cap).run Tryz.prog w = .ok (.func fn first cap) w := fun _ _ _ _ => rfl
 unfold setV setC
 go_enter Tryz.func123, Tryz.ntmps123
 go_wp2_with fail
 go_ret
 exact ⟨rfl, rfl⟩
set_option maxRecDepth 100000 in
set_option maxHeartbeats 8000000 in
theorem items8_any (S : Nat → Bool) (w : World) : Calls Tryz.prog 93 #[setV S] w fun e w' => e = .returned (.string (itemsP S)) ∧ Below w.heap.size w w' := by
 have b1 := Blk.new w 24 #[.int .u64 ((wd S 0 : Nat) : Int), .int .u64 ((wd S 1 : Nat) : Int), .int .u64 ((wd S 2 : Nat) : Int), .int .u64 ((wd S 3 : Nat) : Int)]
 have b3 := Blk.new (w.alloc (.cells #[.int .u64 ((wd S 0 : Nat) : Int), .int .u64 ((wd S 1 : Nat) : Int), .int .u64 ((wd S 2 : Nat) : Int), .int .u64 ((wd S 3 : Nat) : Int)] 24)) 59 #[.slice none 0 0]
 rw [World.size_alloc] at b3
 have hB1 := (Below.refl w.heap.size w).alloc (Nat.le_refl _) (.cells #[.int .u64 ((wd S 0 : Nat) : Int), .int .u64 ((wd S 1 : Nat) : Int), .int .u64 ((wd S 2 : Nat) : Int), .int .u64 ((wd S 3 : Nat) : Int)] 24)
 have hB2 := hB1.alloc hB1.size (.cells #[.slice none 0 0] 59)
 have b1' := b1.alloc (.cells #[.slice none 0 0] 59)
 have hz2 : ((w.alloc (.cells #[.int .u64 ((wd S 0 : Nat) : Int), .int .u64 ((wd S 1 : Nat) : Int), .int .u64 ((wd S 2 : Nat) : Int), .int .u64 ((wd S 3 : Nat) : Int)] 24)).alloc (.cells #[.slice none 0 0] 59)).heap.size = w.heap.size + 2 := by rw [World.size_alloc, World.size_alloc]
 refine (callsIn_wide (n := 3)).1 ?_
 refine callsIn_of_wp_marks Tryz.func93 rfl trivial ?_ rfl
 refine wpIn_wide.2 ?_
 simp only [Tryz.ntmps93, List.size_toArray, List.length_cons, List.length_nil, Nat.reduceAdd, Nat.reduceSub, Array.replicate_succ, Array.replicate_zero, List.push_toArray, List.append_toArray, List.nil_append, List.cons_append]
 unfold setV setC
 go_upto_region 2 with fail
 generalize ((w.alloc (.cells #[.int .u64 ((wd S 0 : Nat) : Int), .int .u64 ((wd S 1 : Nat) : Int), .int .u64 ((wd S 2 : Nat) : Int), .int .u64 ((wd S 3 : Nat) : Int)] 24)).alloc (.cells #[.slice none 0 0] 59)) = w2 at *
 have H2 := hide (And.intro hB2 (And.intro b1' b3))
 have HZ := hide (show w.heap.size + 2 ≤ w2.heap.size by omega)
 clear hB1 hB2 b1 b1' b3 hz2
 have HOf := hide (fun (y : World) (g : Nat) (hb : Blk y g 5 #[.int .u8 93, .int .u8 91, .int .u8 94, .int .u8 45]) => of_any [93, 91, 94, 45] (some ⟨g, 0, none⟩) 4 y (by decide) (four_in hb))
 have hal := (Below.refl w2.heap.size w2).alloc (Nat.le_refl _) (.cells #[.int .u8 93, .int .u8 91, .int .u8 94, .int .u8 45] 5)
 have HA := hide (And.intro hal (Blk.new w2 5 #[.int .u8 93, .int .u8 91, .int .u8 94, .int .u8 45]))
 clear hal
 go_wp2_with fail
 refine (HOf.out _ _ HA.out.2).mono ?_
 rintro e w4 ⟨rfl, hb4⟩
 have hfour : (fun x => [93, 91, 94, 45].any fun b => decide (x = b)) = fourB := funext four_any8
 rw [hfour]
 obtain ⟨F, hF⟩ : ∃ F, F = fourB := ⟨_, rfl⟩
 rw [← hF]
 have hal := (Below.refl w4.heap.size w4).alloc (Nat.le_refl _) (.cells #[.int .u64 ((wd F 0 : Nat) : Int), .int .u64 ((wd F 1 : Nat) : Int), .int .u64 ((wd F 2 : Nat) : Int), .int .u64 ((wd F 3 : Nat) : Int)] 24)
 have hbb := HA.out.1.trans ((hb4.trans (hal.mono hb4.size)).mono HA.out.1.size)
 have H5 := hide (And.intro (H2.out.1.trans (hbb.mono H2.out.1.size)) (And.intro (H2.out.2.1.below hbb H2.out.2.1.lt) (And.intro (H2.out.2.2.below hbb H2.out.2.2.lt) (Blk.new w4 24 #[.int .u64 ((wd F 0 : Nat) : Int), .int .u64 ((wd F 1 : Nat) : Int), .int .u64 ((wd F 2 : Nat) : Int), .int .u64 ((wd F 3 : Nat) : Int)]))))
 have HFF := hide hF
 have HZ5 := hide (show w.heap.size + 2 ≤ (w4.alloc (.cells #[.int .u64 ((wd F 0 : Nat) : Int), .int .u64 ((wd F 1 : Nat) : Int), .int .u64 ((wd F 2 : Nat) : Int), .int .u64 ((wd F 3 : Nat) : Int)] 24)).heap.size from Nat.le_trans HZ.out hbb.size)
 clear hal hb4 hbb hF hfour HA HOf
 unfold setV setC
 go_upto_region 3 with fail
 generalize (w4.alloc (.cells #[.int .u64 ((wd F 0 : Nat) : Int), .int .u64 ((wd F 1 : Nat) : Int), .int .u64 ((wd F 2 : Nat) : Int), .int .u64 ((wd F 3 : Nat) : Int)] 24)) = w5 at *
 generalize w4.heap.size = g4 at *
 have c1 := H5.out.2.1.cell
 have HHs := hide (fun (c : Nat) (hc : c < 256) (y : World) => has5_any S c hc y)
 unfold setV setC at HHs
 have HH93 := hide (HHs.out 93 (by decide))
 go_wp2_with fail
 refine (HH93.out _).mono ?_
 rintro e w6 ⟨rfl, hb6⟩
 have H6 := hide (And.intro (H5.out.1.trans (hb6.mono H5.out.1.size)) (And.intro (H5.out.2.1.below hb6 H5.out.2.1.lt) (And.intro (H5.out.2.2.1.below hb6 H5.out.2.2.1.lt) (H5.out.2.2.2.below hb6 H5.out.2.2.2.lt))))
 have HZ6 := hide (Nat.le_trans HZ5.out hb6.size)
 clear hb6 H5 HZ5 HH93 c1
 go_upto_if 12 with fail
 go_cut [3] from 12 to 15 (fun z wx => z = .pointer (some ⟨w.heap.size + 1, 0, none⟩) ∧ ∃ v, Blk wx (w.heap.size + 1) 59 #[v] ∧ OwnBy w.heap.size wx v (optB (S 93) 93).data.toList ∧ Below w.heap.size w wx ∧ Blk wx w.heap.size 24 #[.int .u64 ((wd S 0 : Nat) : Int), .int .u64 ((wd S 1 : Nat) : Int), .int .u64 ((wd S 2 : Nat) : Int), .int .u64 ((wd S 3 : Nat) : Int)] ∧ Blk wx g4 24 #[.int .u64 ((wd F 0 : Nat) : Int), .int .u64 ((wd F 1 : Nat) : Int), .int .u64 ((wd F 2 : Nat) : Int), .int .u64 ((wd F 3 : Nat) : Int)] ∧ w.heap.size + 2 ≤ wx.heap.size)
 case first =>
  have hne4 : g4 ≠ w.heap.size + 1 := fun e => by
   have h1 := H6.out.2.2.2
   rw [e] at h1
   have h2 := (show w6.heap[w.heap.size + 1]? = _ from h1).symm.trans H6.out.2.2.1
   simp at h2
  cases hS : S 93 with
  | false =>
   go_wp2_with fail
   go_meet
   case rel => exact ⟨rfl, _, H6.out.2.2.1, by rw [hS]; exact OwnBy.nil _ _, H6.out.1, H6.out.2.1, H6.out.2.2.2, HZ6.out⟩
  | true =>
   have c3 := H6.out.2.2.1.cell
   have hsz := HZ6.out
   have hown0 := OwnBy.nil w.heap.size w6
   have HO0 := hide hown0
   clear hown0
   go_wp2_with (at_builtin; refine wpList_push_bytes rfl _ _ rfl w.heap.size _ [] rfl (HO0.out.next ((Below.refl _ _).alloc (Nat.le_refl _) _)) [93] _ _ rfl (Blk.new _ _ _) (by simp) (by first | omega | (simp only [World.size_alloc]; omega)) ?_; intro v5 w7 hown5 hg5 hv5; obtain ⟨m9, g9, c9, hm9, rfl⟩ := OwnBy.some3 hown5 (by simp); obtain ⟨q1, q2, q3, q4, q5, q6⟩ := push_box H6.out.2.2.1 HO0.out (by omega) (by omega) hown5 hg5; have cq := q1.cell; have fq := q1.frozen)
   go_meet
   case rel => exact ⟨rfl, _, q2, by rw [hS]; exact q3, H6.out.1.trans q5, q6 _ _ _ H6.out.2.1 (by decide) (by omega), q6 _ _ _ H6.out.2.2.2 (by decide) hne4, Nat.le_trans hsz q5.size⟩
 case rest =>
 obtain ⟨hz3, v, hbv, hov, hbel, hbs, hbf, hsz⟩ := hcut
 subst hz3
 have H7 := hide (And.intro hbv (And.intro hov (And.intro hbel (And.intro hbs hbf))))
 have HZ7 := hide hsz
 have c1 := hbs.cell
 have c4 := hbf.cell
 clear hbv hov hbel hbs hbf hsz H6 HZ6 H2 HZ
 obtain ⟨PS, hPS⟩ : ∃ PS : Nat → Bool, PS = fun b => S b && !fourB b := ⟨_, rfl⟩
 have HPS := hide hPS
 have HLs := hide (fun (y : World) => less_any S F y)
 rw [HFF.out, ← hPS] at HLs
 rw [← HFF.out] at HLs
 have HRw := hide (fun (y : World) => Rows8_any PS y)
 unfold setV setC at HLs HRw
 clear hPS
 go_wp2_with fail
 refine (HLs.out _).mono ?_
 rintro e w8 ⟨rfl, hb8⟩
 have H8 := hide (And.intro (H7.out.1.below hb8 H7.out.1.lt) (And.intro (H7.out.2.1.next hb8) (And.intro (H7.out.2.2.1.trans (hb8.mono H7.out.2.2.1.size)) (H7.out.2.2.2.1.below hb8 H7.out.2.2.2.1.lt))))
 have HZ8 := hide (Nat.le_trans HZ7.out hb8.size)
 clear hb8 H7 HZ7 c1 c4
 unfold setV setC
 go_wp2_with fail
 refine (HRw.out _).mono ?_
 rintro e w9 ⟨rfl, hw9⟩
 have hal := (Below.refl w8.heap.size w8).alloc (Nat.le_refl _) (.cells #[.int .u64 ((wd PS 0 : Nat) : Int), .int .u64 ((wd PS 1 : Nat) : Int), .int .u64 ((wd PS 2 : Nat) : Int), .int .u64 ((wd PS 3 : Nat) : Int)] 24)
 rw [← hw9] at hal
 have H9 := hide (And.intro (H8.out.1.below hal H8.out.1.lt) (And.intro (H8.out.2.1.next hal) (And.intro (H8.out.2.2.1.trans (hal.mono H8.out.2.2.1.size)) (H8.out.2.2.2.below hal H8.out.2.2.2.lt))))
 have HR9 := hide (show Blk w9 w8.heap.size 24 #[.int .u64 ((wd PS 0 : Nat) : Int), .int .u64 ((wd PS 1 : Nat) : Int), .int .u64 ((wd PS 2 : Nat) : Int), .int .u64 ((wd PS 3 : Nat) : Int)] from by rw [hw9]; exact Blk.new _ _ _)
 have HZ9 := hide (show w8.heap.size + 1 = w9.heap.size from by rw [hw9, World.size_alloc])
 have HZ10 := hide (show w.heap.size + 2 ≤ w8.heap.size from HZ8.out)
 clear hal hw9 H8 HZ8 HRw HLs
 generalize w8.heap.size = g16 at *
 go_wp2_with fail
 obtain ⟨l0, hl0⟩ : ∃ l0, l0 = (optB (S 93) 93).data.toList := ⟨_, rfl⟩
 rw [← hl0] at H9
 have HL0 := hide hl0
 clear hl0
 have hkb : ∀ (W : World) (l : Nat) (o o' : Obj), w9.heap.size ≤ l → W.heap[l]? = some o → o.isCells = false → o.isWalk = false → KeepB g16 W (W.putObj l o') := fun W l o o' hl _ _ _ => World.putObj_heap_other (fun e => by have := HZ9.out; omega)
 refine (wpIn_wide (n := 3)).1 ?_
 refine wpIn_rangeFunc_ownG (F := Fence.wide) rfl (by decide : 1 ≤ 3) (gf := 144) (lb := #[.pointer (some ⟨g16, 0, none⟩)]) rfl trivial (enters_of Tryz.func144 (by kernel_rfl) rfl)
  (rows8_stops 2 (by decide) g16 PS w9 HR9.out) (fun h k => Eq.trans k h) hkb (Below.refl _ _) (fun _ => rfl)
  (fun pre W => ∃ v, Blk W (w.heap.size + 1) 59 #[v] ∧ OwnBy w.heap.size W v (l0 ++ catR pre) ∧ Below w.heap.size w W ∧ Blk W w.heap.size 24 #[.int .u64 ((wd S 0 : Nat) : Int), .int .u64 ((wd S 1 : Nat) : Int), .int .u64 ((wd S 2 : Nat) : Int), .int .u64 ((wd S 3 : Nat) : Int)] ∧ Blk W g16 24 #[.int .u64 ((wd PS 0 : Nat) : Int), .int .u64 ((wd PS 1 : Nat) : Int), .int .u64 ((wd PS 2 : Nat) : Int), .int .u64 ((wd PS 3 : Nat) : Int)] ∧ w9.heap.size ≤ W.heap.size)
  (fun _ _ _ => False)
  ?own (fun _ _ _ _ _ hs _ _ => hs)
  ⟨v, H9.out.1, by simpa [catR] using H9.out.2.1, H9.out.2.2.1, H9.out.2.2.2, HR9.out, Nat.le_refl _⟩
  ?a1 ?assign ?body ?done ?stop
 case assign =>
  intro l x W K hK
  dsimp only [encR]
  gi_wp2
  exact hK
 case own =>
  rintro s A B row ⟨v, h1, h2, h3, h4, h5, h6⟩ hg hr
  have hne : ∀ {g : Nat} {t : TypeId} {cs : Array Value}, Blk A g t cs → some g ≠ row := fun {g t cs} hb e => by
   obtain ⟨_, o, ho, hc⟩ := hr g e.symm
   rw [show A.heap[g]? = _ from hb] at ho
   cases ho
   cases hc
  exact ⟨v, h1.grown hg (hne h1), h2.grown hg (fun g hgv => by obtain ⟨cur, hcur⟩ := h2.cells_at hgv; exact hne hcur), h3.grown hg h3.size (fun k e => Nat.le_trans (by have := HZ9.out; have := HZ10.out; omega) (hr k e).1), h4.grown hg (hne h4), h5.grown hg (hne h5), Nat.le_trans h6 hg.size⟩
 case body =>
  rintro l pre ⟨⟨lo, hi⟩, hlh, hhi⟩ W ⟨v, h1, h2, h3, h4, h5, h6⟩ hlt
  simp only at hlh hhi
  have hlen : (l0 ++ catR pre).length ≤ 1000 := by
   have k1 := catR_len pre
   have k2 := optB_len (S 93) 93
   rw [← HL0.out] at k2
   rw [List.length_append]
   omega
  have c3 := h1.cell
  by_cases e0 : hi = lo
  ·subst e0
   have d0 : IntKind.u8.wrap ((hi : Int) - (hi : Int)) = 0 := by rw [Int.sub_self]; rfl
   have d1 : IntKind.u8.wrap 0 = 0 := rfl
   gi_wp2_with (gi_at_builtin; refine wpListIn_push_bytes rfl _ _ rfl w.heap.size v (l0 ++ catR pre) rfl (h2.next ((Below.refl _ _).alloc (Nat.le_refl _) _)) [hi.toUInt8] _ _ rfl (by rw [byC_cons hhi]; exact Blk.new _ _ _) (by have := hlen; simp only [List.length_cons, List.length_nil]; omega) (by have := h3.size; simp only [World.size_alloc]; omega) ?_; intro v5 w7 hown5 hg5; obtain ⟨m9, g9, c9, hm9, rfl⟩ := OwnBy.some3 hown5 (by simp); obtain ⟨q1, q2, q3, q4, q5, q6⟩ := push_box h1 h2 h3.size (by omega) hown5 hg5; have cq := q1.cell; have fq := q1.frozen)
   have q7 := q6 _ _ _ h5 (by decide) (by have := HZ10.out; omega)
   exact ⟨q4.from _, Eq.trans q7 (Eq.symm h5), ⟨_, q2, by rw [catR_snoc, ← List.append_assoc]; show OwnBy _ _ _ (_ ++ (rowT _ _).data.toList); rw [rowT_one]; exact q3, h3.trans q5, q6 _ _ _ h4 (by decide) (by omega), q7, Nat.le_trans h6 q5.size⟩⟩
  by_cases e1 : hi = lo + 1
  ·have hlo : lo < 256 := by omega
   have d0 : IntKind.u8.wrap ((hi : Int) - (lo : Int)) = 1 := by rw [IntKind.wrap_u8']; omega
   have E1 := hide e1
   clear e1
   gi_wp2_with (gi_at_builtin; refine wpListIn_push_bytes rfl _ _ rfl w.heap.size v (l0 ++ catR pre) rfl (h2.next ((Below.refl _ _).alloc (Nat.le_refl _) _)) [lo.toUInt8, hi.toUInt8] _ _ rfl (by rw [byC_cons hlo, byC_cons hhi]; exact Blk.new _ _ _) (by have := hlen; simp only [List.length_cons, List.length_nil]; omega) (by have := h3.size; simp only [World.size_alloc]; omega) ?_; intro v5 w7 hown5 hg5; obtain ⟨m9, g9, c9, hm9, rfl⟩ := OwnBy.some3 hown5 (by simp); obtain ⟨q1, q2, q3, q4, q5, q6⟩ := push_box h1 h2 h3.size (by omega) hown5 hg5; have cq := q1.cell; have fq := q1.frozen)
   have q7 := q6 _ _ _ h5 (by decide) (by have := HZ10.out; omega)
   exact ⟨q4.from _, Eq.trans q7 (Eq.symm h5), ⟨_, q2, by rw [catR_snoc, ← List.append_assoc]; show OwnBy _ _ _ (_ ++ (rowT _ _).data.toList); rw [show (rowT lo hi).data.toList = [lo.toUInt8, hi.toUInt8] from by rw [E1.out]; exact rowT_two lo]; exact q3, h3.trans q5, q6 _ _ _ h4 (by decide) (by omega), q7, Nat.le_trans h6 q5.size⟩⟩
  ·have hlo : lo < 256 := by omega
   obtain ⟨d, hd⟩ : ∃ d : Nat, d = hi - lo := ⟨_, rfl⟩
   have E2 := hide (show lo + 2 ≤ hi by omega)
   have d0 : IntKind.u8.wrap ((hi : Int) - (lo : Int)) = (d : Int) := by rw [IntKind.wrap_u8']; omega
   have d1 : ¬ (d : Int) = 0 := by omega
   have d2 : ¬ (d : Int) = 1 := by omega
   have d3 : ((d : Int) == 0) = false := beq_eq_false_iff_ne.2 d1
   have d4 : ((d : Int) == 1) = false := beq_eq_false_iff_ne.2 d2
   clear hd
   gi_wp2_with (gi_at_builtin; refine wpListIn_push_bytes rfl _ _ rfl w.heap.size v (l0 ++ catR pre) rfl (h2.next ((Below.refl _ _).alloc (Nat.le_refl _) _)) [lo.toUInt8, (45 : Nat).toUInt8, hi.toUInt8] _ _ rfl (by rw [byC_cons hlo, byC_cons (by decide : 45 < 256), byC_cons hhi]; exact Blk.new _ _ _) (by have := hlen; simp only [List.length_cons, List.length_nil]; omega) (by have := h3.size; simp only [World.size_alloc]; omega) ?_; intro v5 w7 hown5 hg5; obtain ⟨m9, g9, c9, hm9, rfl⟩ := OwnBy.some3 hown5 (by simp); obtain ⟨q1, q2, q3, q4, q5, q6⟩ := push_box h1 h2 h3.size (by omega) hown5 hg5; have cq := q1.cell; have fq := q1.frozen)
   have q7 := q6 _ _ _ h5 (by decide) (by have := HZ10.out; omega)
   exact ⟨q4.from _, Eq.trans q7 (Eq.symm h5), ⟨_, q2, by rw [catR_snoc, ← List.append_assoc]; show OwnBy _ _ _ (_ ++ (rowT _ _).data.toList); rw [rowT_more E2.out]; exact q3, h3.trans q5, q6 _ _ _ h4 (by decide) (by omega), q7, Nat.le_trans h6 q5.size⟩⟩
 case done =>
  rintro D ys W hD hcat ⟨v, h1, h2, h3, h4, h5, h6⟩ hK
  have HL := hide (show l0 ++ catR ys = (optB (S 93) 93).data.toList ++ (rowsFrom PS 0).data.toList from by rw [HL0.out, hcat])
  have hlen : (l0 ++ catR ys).length ≤ 1000 := by
   rw [HL.out, List.length_append]
   have k2 := optB_len (S 93) 93
   have k3 := rowsFrom_len PS
   omega
  obtain ⟨l1, hl1⟩ : ∃ l1, l1 = l0 ++ catR ys := ⟨_, rfl⟩
  rw [← hl1] at h2 HL hlen
  have HL1 := hide hlen
  have hz9 := HZ9.out
  have hz10 := HZ10.out
  have hszw : w.heap.size + 2 ≤ W.heap.size := by omega
  have HH := hide (And.intro h1 (And.intro h2 (And.intro h3 (And.intro h4 (And.intro hK hszw)))))
  clear h1 h2 h3 h4 h5 hK hl1 hlen hcat HL0 H9 HR9 hz9 hz10 hkb
  go_wp2_with fail
  obtain ⟨gC, hgc⟩ : ∃ gC, gC = W.heap.size := ⟨_, rfl⟩
  have hgC : gC ≠ w.heap.size + 1 := by rw [hgc]; omega
  have hal := (Below.refl W.heap.size W).alloc (Nat.le_refl _) (.cells #[.int .u8 91, .int .u8 94, .int .u8 45] 5)
  have HC := hide (show Blk (W.alloc (.cells #[.int .u8 91, .int .u8 94, .int .u8 45] 5)) gC 5 #[.int .u8 91, .int .u8 94, .int .u8 45] from by rw [hgc]; exact Blk.new _ _ _)
  have HV := hide (show some gC ≠ v.ownBlock from fun e => by have h9 := (HH.out.2.1.block gC e.symm).2; omega)
  have HA := hide hal
  rw [← hgc]
  clear hal hszw hgc
  go_loopw [45] (fun kv wr => ∃ (k : Nat) (v : Value), kv = .int .i64 (k : Int) ∧ k ≤ 3 ∧ Blk wr (w.heap.size + 1) 59 #[v] ∧ OwnBy w.heap.size wr v (l1 ++ optsL S k) ∧ Below w.heap.size w wr ∧ Blk wr w.heap.size 24 #[.int .u64 ((wd S 0 : Nat) : Int), .int .u64 ((wd S 1 : Nat) : Int), .int .u64 ((wd S 2 : Nat) : Int), .int .u64 ((wd S 3 : Nat) : Int)] ∧ Blk wr gC 5 #[.int .u8 91, .int .u8 94, .int .u8 45] ∧ wr.heap[D]? = some (.deferred (some [])) ∧ some gC ≠ v.ownBlock ∧ w.heap.size + 2 ≤ wr.heap.size) (fun kv _ => 3 - (intOf kv).toNat)
  case atStart => exact ⟨0, v, rfl, by decide, HH.out.1.below HA.out HH.out.1.lt, by rw [show optsL S 0 = [] from rfl, List.append_nil]; exact HH.out.2.1.next HA.out, HH.out.2.2.1.trans (HA.out.mono HH.out.2.2.1.size), HH.out.2.2.2.1.below HA.out HH.out.2.2.2.1.lt, HC.out, (HA.out.block D (Array.getElem?_eq_some_iff.1 HH.out.2.2.2.2.1).1).trans HH.out.2.2.2.2.1, HV.out, Nat.le_trans HH.out.2.2.2.2.2 HA.out.size⟩
  case round =>
   obtain ⟨k, v, rfl, hk, hr1, hr2, hr3, hr4, hr5, hr6, hr7, hszr⟩ := hrel
   have hR := hide (And.intro hr1 (And.intro hr2 (And.intro hr3 (And.intro hr4 (And.intro hr5 (And.intro hr6 hr7))))))
   clear hr1 hr2 hr3 hr4 hr5 hr6 hr7
   obtain rfl | rfl | rfl | rfl : k = 0 ∨ k = 1 ∨ k = 2 ∨ k = 3 := by omega
   ·skip
    have HHc := hide (HHs.out 91 (by decide) wr)
    have cc := hR.out.2.2.2.2.1.cell
    have cs := hR.out.2.2.2.1.cell
    have c3 := hR.out.1.cell
    have hstep : l1 ++ optsL S 1 = (l1 ++ optsL S 0) ++ (optB (S 91) 91).data.toList := by
     rw [List.append_assoc]
     congr 1
    have HST := hide hstep
    have hl3 : (l1 ++ optsL S 0).length ≤ 1500 := by
     have k1 := optsL_len S 0
     have k2 := HL1.out
     rw [List.length_append]; omega
    clear hstep
    go_wp2_with fail
    refine HHc.out.mono ?_
    rintro e w2 ⟨rfl, hb2⟩
    have hR2 := hide (And.intro (hR.out.1.below hb2 hR.out.1.lt) (And.intro (hR.out.2.1.next hb2) (And.intro (hR.out.2.2.1.trans (hb2.mono hR.out.2.2.1.size)) (And.intro (hR.out.2.2.2.1.below hb2 hR.out.2.2.2.1.lt) (And.intro (hR.out.2.2.2.2.1.below hb2 hR.out.2.2.2.2.1.lt) (And.intro ((hb2.block D (Array.getElem?_eq_some_iff.1 hR.out.2.2.2.2.2.1).1).trans hR.out.2.2.2.2.2.1) hR.out.2.2.2.2.2.2))))))
    have HZr := hide (show w.heap.size + 2 ≤ w2.heap.size from Nat.le_trans hszr hb2.size)
    clear hb2 cc cs HHc c3
    cases hS : S 91 with
    | false =>
     rw [hS] at HST
     go_wp2_with fail
     go_roundw
     case rel => exact ⟨1, v, by go_num, by decide, hR2.out.1, by rw [HST.out, show (optB false 91).data.toList = [] from rfl, List.append_nil]; exact hR2.out.2.1, hR2.out.2.2.1, hR2.out.2.2.2.1, hR2.out.2.2.2.2.1, hR2.out.2.2.2.2.2.1, hR2.out.2.2.2.2.2.2, HZr.out⟩
     case measure => simp [intOf]
    | true =>
     rw [hS] at HST
     have c3 := hR2.out.1.cell
     have hz2 := HZr.out
     go_wp2_with (at_builtin; refine wpList_push_bytes rfl _ _ rfl w.heap.size _ (l1 ++ optsL S 0) rfl (hR2.out.2.1.next ((Below.refl _ _).alloc (Nat.le_refl _) _)) [91] _ _ rfl (Blk.new _ _ _) (by have := hl3; simp only [List.length_cons, List.length_nil]; omega) (by simp only [World.size_alloc]; omega) ?_; intro v5 w7 hown5 hg5 hv5; obtain ⟨m9, g9, c9, hm9, rfl⟩ := OwnBy.some3 hown5 (by simp); obtain ⟨q1, q2, q3, q4, q5, q6⟩ := push_box hR2.out.1 hR2.out.2.1 (by omega) (by omega) hown5 hg5; have cq := q1.cell; have fq := q1.frozen)
     have qc : Blk (w7.setCell ⟨w.heap.size + 1, 0, none⟩ (.slice (some ⟨g9, 0, none⟩) m9 c9)) gC 5 #[.int .u8 91, .int .u8 94, .int .u8 45] := Blk.far (p := ⟨w.heap.size + 1, 0, none⟩) ((hR2.out.2.2.2.2.1.alloc _).grown hg5 hR2.out.2.2.2.2.2.2) (by show gC ≠ w.heap.size + 1; exact hgC) _
     have qv : some gC ≠ (Value.slice (some ⟨g9, 0, none⟩) m9 c9).ownBlock := by
      rcases hv5 with e | e
      ·rw [e]; exact hR2.out.2.2.2.2.2.2
      ·rw [e, World.size_alloc]; intro e2; have h9 := Option.some.inj e2; have := hR2.out.2.2.2.2.1.lt; omega
     go_roundw
     case rel => exact ⟨1, _, by go_num, by decide, q2, by rw [HST.out]; exact q3, hR2.out.2.2.1.trans q5, q6 _ _ _ hR2.out.2.2.2.1 (by decide) (by omega), qc, q4.same D _ hR2.out.2.2.2.2.2.1 rfl, qv, Nat.le_trans HZr.out q5.size⟩
     case measure => simp [intOf]
   ·skip
    have HHc := hide (HHs.out 94 (by decide) wr)
    have cc := hR.out.2.2.2.2.1.cell
    have cs := hR.out.2.2.2.1.cell
    have c3 := hR.out.1.cell
    have hstep : l1 ++ optsL S 2 = (l1 ++ optsL S 1) ++ (optB (S 94) 94).data.toList := by
     rw [List.append_assoc]
     congr 1
    have HST := hide hstep
    have hl3 : (l1 ++ optsL S 1).length ≤ 1500 := by
     have k1 := optsL_len S 1
     have k2 := HL1.out
     rw [List.length_append]; omega
    clear hstep
    go_wp2_with fail
    refine HHc.out.mono ?_
    rintro e w2 ⟨rfl, hb2⟩
    have hR2 := hide (And.intro (hR.out.1.below hb2 hR.out.1.lt) (And.intro (hR.out.2.1.next hb2) (And.intro (hR.out.2.2.1.trans (hb2.mono hR.out.2.2.1.size)) (And.intro (hR.out.2.2.2.1.below hb2 hR.out.2.2.2.1.lt) (And.intro (hR.out.2.2.2.2.1.below hb2 hR.out.2.2.2.2.1.lt) (And.intro ((hb2.block D (Array.getElem?_eq_some_iff.1 hR.out.2.2.2.2.2.1).1).trans hR.out.2.2.2.2.2.1) hR.out.2.2.2.2.2.2))))))
    have HZr := hide (show w.heap.size + 2 ≤ w2.heap.size from Nat.le_trans hszr hb2.size)
    clear hb2 cc cs HHc c3
    cases hS : S 94 with
    | false =>
     rw [hS] at HST
     go_wp2_with fail
     go_roundw
     case rel => exact ⟨2, v, by go_num, by decide, hR2.out.1, by rw [HST.out, show (optB false 94).data.toList = [] from rfl, List.append_nil]; exact hR2.out.2.1, hR2.out.2.2.1, hR2.out.2.2.2.1, hR2.out.2.2.2.2.1, hR2.out.2.2.2.2.2.1, hR2.out.2.2.2.2.2.2, HZr.out⟩
     case measure => simp [intOf]
    | true =>
     rw [hS] at HST
     have c3 := hR2.out.1.cell
     have hz2 := HZr.out
     go_wp2_with (at_builtin; refine wpList_push_bytes rfl _ _ rfl w.heap.size _ (l1 ++ optsL S 1) rfl (hR2.out.2.1.next ((Below.refl _ _).alloc (Nat.le_refl _) _)) [94] _ _ rfl (Blk.new _ _ _) (by have := hl3; simp only [List.length_cons, List.length_nil]; omega) (by simp only [World.size_alloc]; omega) ?_; intro v5 w7 hown5 hg5 hv5; obtain ⟨m9, g9, c9, hm9, rfl⟩ := OwnBy.some3 hown5 (by simp); obtain ⟨q1, q2, q3, q4, q5, q6⟩ := push_box hR2.out.1 hR2.out.2.1 (by omega) (by omega) hown5 hg5; have cq := q1.cell; have fq := q1.frozen)
     have qc : Blk (w7.setCell ⟨w.heap.size + 1, 0, none⟩ (.slice (some ⟨g9, 0, none⟩) m9 c9)) gC 5 #[.int .u8 91, .int .u8 94, .int .u8 45] := Blk.far (p := ⟨w.heap.size + 1, 0, none⟩) ((hR2.out.2.2.2.2.1.alloc _).grown hg5 hR2.out.2.2.2.2.2.2) (by show gC ≠ w.heap.size + 1; exact hgC) _
     have qv : some gC ≠ (Value.slice (some ⟨g9, 0, none⟩) m9 c9).ownBlock := by
      rcases hv5 with e | e
      ·rw [e]; exact hR2.out.2.2.2.2.2.2
      ·rw [e, World.size_alloc]; intro e2; have h9 := Option.some.inj e2; have := hR2.out.2.2.2.2.1.lt; omega
     go_roundw
     case rel => exact ⟨2, _, by go_num, by decide, q2, by rw [HST.out]; exact q3, hR2.out.2.2.1.trans q5, q6 _ _ _ hR2.out.2.2.2.1 (by decide) (by omega), qc, q4.same D _ hR2.out.2.2.2.2.2.1 rfl, qv, Nat.le_trans HZr.out q5.size⟩
     case measure => simp [intOf]
   ·skip
    have HHc := hide (HHs.out 45 (by decide) wr)
    have cc := hR.out.2.2.2.2.1.cell
    have cs := hR.out.2.2.2.1.cell
    have c3 := hR.out.1.cell
    have hstep : l1 ++ optsL S 3 = (l1 ++ optsL S 2) ++ (optB (S 45) 45).data.toList := by
     rw [List.append_assoc]
     congr 1 <;> exact (List.append_assoc _ _ _).symm
    have HST := hide hstep
    have hl3 : (l1 ++ optsL S 2).length ≤ 1500 := by
     have k1 := optsL_len S 2
     have k2 := HL1.out
     rw [List.length_append]; omega
    clear hstep
    go_wp2_with fail
    refine HHc.out.mono ?_
    rintro e w2 ⟨rfl, hb2⟩
    have hR2 := hide (And.intro (hR.out.1.below hb2 hR.out.1.lt) (And.intro (hR.out.2.1.next hb2) (And.intro (hR.out.2.2.1.trans (hb2.mono hR.out.2.2.1.size)) (And.intro (hR.out.2.2.2.1.below hb2 hR.out.2.2.2.1.lt) (And.intro (hR.out.2.2.2.2.1.below hb2 hR.out.2.2.2.2.1.lt) (And.intro ((hb2.block D (Array.getElem?_eq_some_iff.1 hR.out.2.2.2.2.2.1).1).trans hR.out.2.2.2.2.2.1) hR.out.2.2.2.2.2.2))))))
    have HZr := hide (show w.heap.size + 2 ≤ w2.heap.size from Nat.le_trans hszr hb2.size)
    clear hb2 cc cs HHc c3
    cases hS : S 45 with
    | false =>
     rw [hS] at HST
     go_wp2_with fail
     go_roundw
     case rel => exact ⟨3, v, by go_num, by decide, hR2.out.1, by rw [HST.out, show (optB false 45).data.toList = [] from rfl, List.append_nil]; exact hR2.out.2.1, hR2.out.2.2.1, hR2.out.2.2.2.1, hR2.out.2.2.2.2.1, hR2.out.2.2.2.2.2.1, hR2.out.2.2.2.2.2.2, HZr.out⟩
     case measure => simp [intOf]
    | true =>
     rw [hS] at HST
     have c3 := hR2.out.1.cell
     have hz2 := HZr.out
     go_wp2_with (at_builtin; refine wpList_push_bytes rfl _ _ rfl w.heap.size _ (l1 ++ optsL S 2) rfl (hR2.out.2.1.next ((Below.refl _ _).alloc (Nat.le_refl _) _)) [45] _ _ rfl (Blk.new _ _ _) (by have := hl3; simp only [List.length_cons, List.length_nil]; omega) (by simp only [World.size_alloc]; omega) ?_; intro v5 w7 hown5 hg5 hv5; obtain ⟨m9, g9, c9, hm9, rfl⟩ := OwnBy.some3 hown5 (by simp); obtain ⟨q1, q2, q3, q4, q5, q6⟩ := push_box hR2.out.1 hR2.out.2.1 (by omega) (by omega) hown5 hg5; have cq := q1.cell; have fq := q1.frozen)
     have qc : Blk (w7.setCell ⟨w.heap.size + 1, 0, none⟩ (.slice (some ⟨g9, 0, none⟩) m9 c9)) gC 5 #[.int .u8 91, .int .u8 94, .int .u8 45] := Blk.far (p := ⟨w.heap.size + 1, 0, none⟩) ((hR2.out.2.2.2.2.1.alloc _).grown hg5 hR2.out.2.2.2.2.2.2) (by show gC ≠ w.heap.size + 1; exact hgC) _
     have qv : some gC ≠ (Value.slice (some ⟨g9, 0, none⟩) m9 c9).ownBlock := by
      rcases hv5 with e | e
      ·rw [e]; exact hR2.out.2.2.2.2.2.2
      ·rw [e, World.size_alloc]; intro e2; have h9 := Option.some.inj e2; have := hR2.out.2.2.2.2.1.lt; omega
     go_roundw
     case rel => exact ⟨3, _, by go_num, by decide, q2, by rw [HST.out]; exact q3, hR2.out.2.2.1.trans q5, q6 _ _ _ hR2.out.2.2.2.1 (by decide) (by omega), qc, q4.same D _ hR2.out.2.2.2.2.2.1 rfl, qv, Nat.le_trans HZr.out q5.size⟩
     case measure => simp [intOf]
   ·skip
    have c3 := hR.out.1.cell
    have hcv := hR.out.2.1.text
    rw [show (⟨(l1 ++ optsL S 3).toArray⟩ : ByteArray) = itemsP S from by rw [← text_eta (itemsP S), items_list8, HL.out, HPS.out, List.append_assoc]; rfl] at hcv
    have hK := hR.out.2.2.2.2.2.1
    go_wp2_with fail
    refine ⟨by simp, .inl ⟨_, _, rfl, run_takeDeferred hK, ?_⟩⟩
    exact ⟨_, results_tmp rfl _ _ _, rfl, hR.out.2.2.1.trans (belowK_b (w := w) (Nat.le_refl _) wr D _ _ (by have := HZ9.out; have := HZ10.out; omega) hK rfl rfl)⟩
 case stop =>
  rintro D c pre W _ _ h _
  exact h.elim
end Go.Proofs.YtpkcklpjbeginaaGreatDoor

/-! ## Set8 -/
namespace Go.Proofs.YtpkcklpjbeginaaGreatDoor
open Go.RowKit

theorem eql_set8 (S T : Nat → Bool) (w : World) : (binOp .eql 24 (.agg #[.int .u64 ((wd S 0 : Nat) : Int), .int .u64 ((wd S 1 : Nat) : Int), .int .u64 ((wd S 2 : Nat) : Int), .int .u64 ((wd S 3 : Nat) : Int)]) (.agg #[.int .u64 ((wd T 0 : Nat) : Int), .int .u64 ((wd T 1 : Nat) : Int), .int .u64 ((wd T 2 : Nat) : Int), .int .u64 ((wd T 3 : Nat) : Int)])).run Tryz.prog w = .ok (.bool (decide (wd S 0 = wd T 0 ∧ wd S 1 = wd T 1 ∧ wd S 2 = wd T 2 ∧ wd S 3 = wd T 3))) w := by
 rw [run_eql_struct, show (10000 : Nat) = 9999 + 1 from rfl, run_equalIn_set]
 simp only [Result.andThen_ok]
 congr 2
 have h : ∀ a b : Nat, ((a : Int) == (b : Int)) = decide (a = b) := fun a b => by
  by_cases e : a = b
  ·simp [e]
  ·rw [decide_eq_false e, beq_eq_false_iff_ne]
   omega
 simp only [h, Bool.decide_and, Bool.and_assoc]
theorem wd_all {S T : Nat → Bool} : (wd S 0 = wd T 0 ∧ wd S 1 = wd T 1 ∧ wd S 2 = wd T 2 ∧ wd S 3 = wd T 3) ↔ ∀ y, y < 256 → S y = T y := by
 constructor
 ·rintro ⟨h0, h1, h2, h3⟩ y hy
  have h : ∀ k, k < 4 → wd S k = wd T k := fun k hk => by
   have : k = 0 ∨ k = 1 ∨ k = 2 ∨ k = 3 := by omega
   rcases this with e | e | e | e <;> subst e <;> assumption
  have h2 := h (y / 64) (by omega)
  have h3 := wd_bit S (y / 64) (y % 64) (Nat.mod_lt _ (by decide))
  have h4 := wd_bit T (y / 64) (y % 64) (Nat.mod_lt _ (by decide))
  rw [show 64 * (y / 64) + y % 64 = y by omega] at h3 h4
  rw [← h3, ← h4, h2]
 ·intro h
  exact ⟨wd_congr fun j hj => h _ (by omega), wd_congr fun j hj => h _ (by omega), wd_congr fun j hj => h _ (by omega), wd_congr fun j hj => h _ (by omega)⟩
theorem two_in8 {y : World} {g : Nat} (hb : Blk y g 5 #[.int .u8 94, .int .u8 45]) : BytesIn y [94, 45] (some ⟨g, 0, none⟩) := fun i x hi => by
 have h4 : i < 2 := (List.getElem?_eq_some_iff.1 hi).1
 have hc := hb.cell i
 obtain rfl | rfl : i = 0 ∨ i = 1 := by omega
 ·obtain rfl : x = 94 := by simpa using hi.symm
  exact ⟨by decide, g, 0, rfl, hb.lt, hc⟩
 ·obtain rfl : x = 45 := by simpa using hi.symm
  exact ⟨by decide, g, 0, rfl, hb.lt, hc⟩
theorem two_items (S : Nat → Bool) : (itemsP S = ⟨#[94, 45]⟩) ↔ (wd S 0 = wd (fun x => [94, 45].any fun b => decide (x = b)) 0 ∧ wd S 1 = wd (fun x => [94, 45].any fun b => decide (x = b)) 1 ∧ wd S 2 = wd (fun x => [94, 45].any fun b => decide (x = b)) 2 ∧ wd S 3 = wd (fun x => [94, 45].any fun b => decide (x = b)) 3) := by
 have e : ∀ x : Nat, ([94, 45].any fun b => decide (x = b)) = (x == 94 || x == 45) := fun x => by
  have h : ∀ n : Nat, (x == n) = decide (x = n) := fun n => by by_cases e : x = n <;> simp [e]
  simp only [List.any_cons, List.any_nil, Bool.or_false, h]
 rw [items_two, wd_all]
 simp only [e]
theorem quote_one (b : Nat) (hb : b < 256) : quoteS markE (byS b) = quote1 b := by
 unfold quoteS quote1
 rw [byS_toList, quoteL, quoteL, u8n8 hb]
 split <;> rfl
set_option maxRecDepth 100000 in
set_option maxHeartbeats 8000000 in
theorem set8_any (S : Nat → Bool) (w : World) (hT : ∀ y, Below w.heap.size w y → Tab y) : Calls Tryz.prog 60 #[setV S] w fun e w' => e = .returned (.string (setP S)) ∧ Below w.heap.size w w' := by
 have HT := hide hT
 have HI := hide (fun (T : Nat → Bool) (y : World) => items8_any T y)
 have HN := hide (fun (y : World) => not_any S y)
 have HC := hide (fun (y : World) => count5_any S y)
 have b1 := Blk.new w 24 #[.int .u64 ((wd S 0 : Nat) : Int), .int .u64 ((wd S 1 : Nat) : Int), .int .u64 ((wd S 2 : Nat) : Int), .int .u64 ((wd S 3 : Nat) : Int)]
 have hB1 := (Below.refl w.heap.size w).alloc (Nat.le_refl _) (.cells #[.int .u64 ((wd S 0 : Nat) : Int), .int .u64 ((wd S 1 : Nat) : Int), .int .u64 ((wd S 2 : Nat) : Int), .int .u64 ((wd S 3 : Nat) : Int)] 24)
 have H0 := hide (And.intro hB1 b1)
 have HF := hide (fun (y : World) (hy : Below w.heap.size w y) => first5_any S y (HT.out y hy))
 obtain ⟨res, hres⟩ : ∃ r, r = setP S := ⟨_, rfl⟩
 rw [← hres]
 unfold setP at hres
 have hcl := cntb_le S 256
 obtain ⟨n, hn⟩ : ∃ n, n = cntb S 256 := ⟨_, rfl⟩
 rw [← hn] at hres HC hcl
 have HNN := hide hn
 clear hT b1 hB1 hn
 unfold setV setC at HN HC HF ⊢
 go_enter Tryz.func60, Tryz.ntmps60
 go_upto_region 1 with fail
 generalize (w.alloc (.cells #[.int .u64 ((wd S 0 : Nat) : Int), .int .u64 ((wd S 1 : Nat) : Int), .int .u64 ((wd S 2 : Nat) : Int), .int .u64 ((wd S 3 : Nat) : Int)] 24)) = w1 at *
 have c1 := H0.out.2.cell
 go_wp2_with fail
 refine (HC.out _).mono ?_
 rintro e w2 ⟨rfl, hb2⟩
 have H2 := hide (And.intro (H0.out.1.trans (hb2.mono H0.out.1.size)) (H0.out.2.below hb2 H0.out.2.lt))
 clear hb2 c1 H0 HC
 by_cases c256 : n = 256
 ·rw [if_pos c256] at hres
  have HRES := hide hres
  have z1 : ((n : Int) == 256) = true := by rw [c256]; rfl
  clear hres HNN c256
  go_wp2_with fail
  go_ret
  exact ⟨by rw [HRES.out]; rfl, H2.out.1⟩
 rw [if_neg c256] at hres
 have z1 : ((n : Int) == 256) = false := beq_eq_false_iff_ne.2 (by omega)
 by_cases c1 : n = 1
 ·rw [if_pos c1] at hres
  have z2 : ((n : Int) == 1) = true := by rw [c1]; rfl
  have cs := H2.out.2.cell
  obtain ⟨f1, f2⟩ : firstB S < 256 ∧ True := by
   refine ⟨?_, trivial⟩
   unfold firstB
   cases hf : (List.range 256).find? S with
   | none => decide
   | some y => have := List.mem_of_find?_eq_some hf; simpa using this
  obtain ⟨b, hb⟩ : ∃ b, b = firstB S := ⟨_, rfl⟩
  rw [← hb] at f1 hres HF
  have HRES := hide hres
  clear hres HNN c1 hb
  go_wp2_with fail
  refine (HF.out _ H2.out.1).mono ?_
  rintro e w3 ⟨rfl, hb3⟩
  have H3 := hide (H2.out.1.trans (hb3.mono H2.out.1.size))
  have hal := (Below.refl w3.heap.size w3).alloc (Nat.le_refl _) (.cells #[.int .u8 (b : Int)] 5)
  have H4 := hide (H3.out.trans (hal.mono H3.out.size))
  have hcv := one_byte8 b f1 w3.heap.size (w3.alloc (.cells #[.int .u8 (b : Int)] 5)) (by rw [(Blk.new w3 _ _).cell]; rfl)
  have HQ := hide (show Calls Tryz.prog 23 #[.string (byS b), .int .i64 1] (w3.alloc (.cells #[.int .u8 (b : Int)] 5)) fun e w' => e = .returned (.string (quote1 b)) ∧ Below (w3.alloc (.cells #[.int .u8 (b : Int)] 5)).heap.size (w3.alloc (.cells #[.int .u8 (b : Int)] 5)) w' from by
   have h1 := quote8_any (byS b) 1 (w3.alloc (.cells #[.int .u8 (b : Int)] 5)) (by rw [byS_size]; decide)
   rw [if_neg (by decide), quote_one b f1] at h1
   exact h1)
  clear hal hb3 cs HF
  go_wp2_with fail
  refine HQ.out.mono ?_
  rintro e w5 ⟨rfl, hb5⟩
  have H5 := hide (H4.out.trans (hb5.mono H4.out.size))
  clear hb5
  go_wp2_with fail
  go_ret
  exact ⟨by rw [HRES.out]; rfl, H5.out⟩
 rw [if_neg c1] at hres
 have z2 : ((n : Int) == 1) = false := beq_eq_false_iff_ne.2 (by omega)
 by_cases c0 : n = 0 ∨ 128 < n
 ·rw [if_pos c0] at hres
  have HIL := hide (items_len8 (fun b => !S b))
  obtain ⟨it, hit⟩ : ∃ it, it = itemsP (fun b => !S b) := ⟨_, rfl⟩
  have HIn := hide (fun (y : World) => HI.out (fun b => !S b) y)
  rw [← hit] at hres HIL HIn
  have HRES := hide hres
  clear hres HNN hit
  have cs := H2.out.2.cell
  have hz := HIL.out
  have s1 : (⟨#[91, 94]⟩ : ByteArray).size = 2 := rfl
  have s2 : ((⟨#[91, 94]⟩ : ByteArray) ++ it).size = 2 + it.size := by rw [ByteArray.size_append, s1]
  have hsz1 : ¬ 9223372036854775807 < 2 + it.size := by omega
  have hsz2 : ¬ 9223372036854775807 < 2 + it.size + 1 := by omega
  have hsz3 : ¬ 9223372036854775807 < ((⟨#[91, 94]⟩ : ByteArray) ++ it).size + 1 := by omega
  clear s2 s1
  unfold setV setC at HIn
  have HD := hide (show ((⟨#[91, 94]⟩ : ByteArray) ++ it) ++ (⟨#[93]⟩ : ByteArray) = res from by rw [HRES.out]; rfl)
  go_upto_region 7 with fail
  go_cut [23] (fun z wx => z = .bool true ∧ wx = w2)
  case first =>
   by_cases n0 : n = 0
   ·have z3 : ((n : Int) == 0) = true := by rw [n0]; rfl
    clear n0 c0
    go_wp2_with fail
    go_meet
    case rel => exact ⟨rfl, rfl⟩
   ·have z3 : ((n : Int) == 0) = false := beq_eq_false_iff_ne.2 (by omega)
    have z4 : decide ((128 : Int) < (n : Int)) = true := decide_eq_true (by omega)
    have z5 : 128 < n := by omega
    clear n0 c0
    go_wp2_with fail
    go_meet
    case rel => exact ⟨rfl, rfl⟩
  case rest =>
  obtain ⟨hv8, hwc⟩ := hcut
  obtain rfl := hwc.symm
  subst hv8
  go_wp2_with fail
  refine (HN.out _).mono ?_
  rintro e w3 ⟨rfl, hb3⟩
  have H3 := hide (H2.out.1.trans (hb3.mono H2.out.1.size))
  unfold setV setC
  clear hb3 cs
  go_wp2_with fail
  refine (HIn.out _).mono ?_
  rintro e w4 ⟨rfl, hb4⟩
  have H4 := hide (H3.out.trans (hb4.mono H3.out.size))
  have hd := HD.out
  clear hb4
  go_wp2_with fail
  go_ret
  exact ⟨rfl, H4.out⟩
 rw [if_neg c0] at hres
 have z3 : ((n : Int) == 0) = false := beq_eq_false_iff_ne.2 (by omega)
 have z4 : decide ((128 : Int) < (n : Int)) = false := decide_eq_false (by omega)
 have z5 : ¬ 128 < n := by omega
 have HIL := hide (items_len8 S)
 obtain ⟨TT, hTT⟩ : ∃ TT : Nat → Bool, TT = fun x => [94, 45].any fun b => decide (x = b) := ⟨_, rfl⟩
 have h2i := two_items S
 rw [← hTT] at h2i
 have HOf := hide (fun (y : World) (g : Nat) (hb : Blk y g 5 #[.int .u8 94, .int .u8 45]) => of_any [94, 45] (some ⟨g, 0, none⟩) 2 y (by decide) (two_in8 hb))
 rw [← hTT] at HOf
 obtain ⟨eq, heq⟩ : ∃ eq, eq = decide (wd S 0 = wd TT 0 ∧ wd S 1 = wd TT 1 ∧ wd S 2 = wd TT 2 ∧ wd S 3 = wd TT 3) := ⟨_, rfl⟩
 have HEQ := hide (fun (y : World) => eql_set8 S TT y)
 rw [← heq] at HEQ
 have HR2 := hide (show res = if eq = true then ⟨#[91, 45, 94, 93]⟩ else byS 91 ++ itemsP S ++ byS 93 from by
  rw [hres, heq]
  by_cases h : itemsP S = ⟨#[94, 45]⟩
  ·rw [if_pos h, if_pos (decide_eq_true (h2i.1 h))]
  ·rw [if_neg h, if_neg (by rw [decide_eq_true_eq]; exact fun e => h (h2i.2 e))])
 clear hres h2i heq hTT HNN
 have hsg := Tryz.setGuard
 go_upto_region 9 with fail
 refine wp_region_mix (fun z => Below w2.heap.size w2 z) [] (by kernel_rfl) (fun hcl => ?_)
 generalize hz0 : w2.drew = z0
 have hS : Below w2.heap.size w2 z0 := by rw [← hz0]; exact (Below.refl _ _).drew
 clear hz0
 refine wpAnyT_take (i := 0) hcl rfl (by kernel_rfl) (v := ?_) (fun _ _ _ h => h) hS (Or.inl ⟨rfl, fun w' hS => ?_⟩) (fun hcl => ?_)
 rotate_left
 ·skip
  have cr : ∀ i : Nat, _ = _ := (H2.out.2.below hS H2.out.2.lt).cell
  go_simp
  with_reducible rfl
 simp only [List.getElem_toArray, List.getElem_cons_zero, List.getElem_cons_succ, Act.put, List.setIfInBounds_toArray, List.set_cons_zero, List.set_cons_succ]
 refine wpAnyT_step (i := 1) hcl rfl (by kernel_rfl) (fun hcl => ?_)
 simp only [List.getElem_toArray, List.getElem_cons_zero, List.getElem_cons_succ, Act.put, List.setIfInBounds_toArray, List.set_cons_zero, List.set_cons_succ]
 go_wp2_with fail
 have hS5 := hS.alloc hS.size (.cells #[.int .u8 94, .int .u8 45] 5)
 have HOg := hide (HOf.out (z0.alloc (.cells #[.int .u8 94, .int .u8 45] 5)) z0.heap.size (Blk.new _ _ _))
 refine ⟨hS5, ?_⟩
 clear hS
 generalize (z0.alloc (.cells #[.int .u8 94, .int .u8 45] 5)) = z1 at *
 refine wpAnyT_step (i := 2) hcl rfl (by kernel_rfl) (fun hcl => ?_)
 simp only [List.getElem_toArray, List.getElem_cons_zero, List.getElem_cons_succ, Act.put, List.setIfInBounds_toArray, List.set_cons_zero, List.set_cons_succ]
 go_wp2_with fail
 refine HOg.out.mono ?_
 rintro e z2 ⟨rfl, hb6⟩
 have hS := hS5.trans (hb6.mono hS5.size)
 unfold setV setC
 go_wp2_with fail
 refine ⟨hS, ?_⟩
 clear hS5 hb6 HOg HOf
 refine wpAnyT_step (i := 3) hcl rfl (by kernel_rfl) (fun hcl => ?_)
 simp only [List.getElem_toArray, List.getElem_cons_zero, List.getElem_cons_succ, Act.put, List.setIfInBounds_toArray, List.set_cons_zero, List.set_cons_succ]
 have heqs := HEQ.out
 go_wp2_with fail
 refine ⟨hS, ?_⟩
 clear heqs
 refine wpAnyT_free (i := 4) hcl rfl (by kernel_rfl) (v := ?_) (fun _ _ _ h => h) hS (Or.inl ⟨rfl, fun w' _ => ?_⟩) (fun hcl => ?_)
 rotate_left
 ·go_simp
  with_reducible rfl
 simp only [List.getElem_toArray, List.getElem_cons_zero, List.getElem_cons_succ, Act.put, List.setIfInBounds_toArray, List.set_cons_zero, List.set_cons_succ]
 refine wpAnyT_done (by kernel_rfl) ?_ _
 have H9 := hide (And.intro (H2.out.1.trans (hS.mono H2.out.1.size)) (H2.out.2.below hS H2.out.2.lt))
 clear hS
 cases eq with
 | true =>
  have HRES := hide (HR2.out.trans (if_pos rfl))
  clear HR2
  go_wp2_with fail
  go_ret
  exact ⟨by rw [HRES.out]; rfl, H9.out.1⟩
 | false =>
  have HRES := hide (HR2.out.trans (if_neg (by decide)))
  clear HR2
  have cs := H9.out.2.cell
  obtain ⟨it, hit⟩ : ∃ it, it = itemsP S := ⟨_, rfl⟩
  have HIn := hide (fun (y : World) => HI.out S y)
  rw [← hit] at HRES HIL HIn
  have hz := HIL.out
  have hsz1 : ¬ 9223372036854775807 < 1 + it.size := by omega
  have hsz2 : ¬ 9223372036854775807 < 1 + it.size + 1 := by omega
  unfold setV setC at HIn
  have HD := hide (show ((⟨#[91]⟩ : ByteArray) ++ it) ++ (⟨#[93]⟩ : ByteArray) = res from by rw [HRES.out]; rfl)
  clear hit
  go_wp2_with fail
  refine (HIn.out _).mono ?_
  rintro e w4 ⟨rfl, hb4⟩
  have H4 := hide (H9.out.1.trans (hb4.mono H9.out.1.size))
  have hd := HD.out
  clear hb4
  go_wp2_with fail
  go_ret
  exact ⟨rfl, H4.out⟩
end Go.Proofs.YtpkcklpjbeginaaGreatDoor
