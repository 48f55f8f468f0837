/- RefTidy8: trawlref08.Tidy. (Printed by gen_reftidy8.py.)
RefTxt8: trawlref08.one, four, items, Set: the document's text of a set. (Printed by gen_reftxt8.py.)
RefText8: trawlref08.Text: the document's text of a tree. (Printed by gen_reftext8.py.)
RefEre8: trawlref08.Ere. (Printed by gen_refere8.py.) -/
import Derived.Test.YtpkcklpjbeginaaGreatDoorEre8
import Derived.Test.YtpkcklpjbeginaaGreatDoorRefCheck20
import Derived.Test.YtpkcklpjbeginaaGreatDoorSet8
import Derived.Test.YtpkcklpjbeginaaGreatDoorRefSets2
import Derived.Test.YtpkcklpjbeginaaGreatDoorRefQuote8
import Derived.Laws.Strings
set_option linter.unusedSimpArgs false
set_option linter.unusedVariables false
set_option linter.unnecessarySimpa false

/-! ## RefTidy8 -/
namespace Go.Proofs.YtpkcklpjbeginaaGreatDoor
open Go.RowKit

/-- Is a tree tidy? -/
def T.tidyB (t : T) : Bool := decide (t.chkN = 0) && (t.tidyN 0).isSome
theorem T.chkN_form {t : T} (h : t.chkN = 0) : t.form = true := by
 unfold T.chkN at h
 split at h
 ·assumption
 ·omega
def numsOk (l : List Int) (k : Nat) : Bool := decide (l.take k = fromN 0 k)
theorem numsOk_zero (l : List Int) : numsOk l 0 = true := by simp [numsOk, fromN]
theorem numsOk_next {l : List Int} {k : Nat} {n : Int} (h : l[k]? = some n) : numsOk l (k + 1) = (numsOk l k && decide (n = (k : Int) + 1)) := by
 unfold numsOk
 rw [List.take_add_one, h, fromN_app]
 have hk : k < l.length := (List.getElem?_eq_some_iff.1 h).1
 rw [← Bool.decide_and]
 congr 1
 apply propext
 constructor
 ·intro e
  obtain ⟨h1, h2⟩ := List.append_inj e (by rw [fromN_len, List.length_take]; omega)
  refine ⟨h1, ?_⟩
  simp only [Option.toList_some, fromN, List.cons.injEq, and_true] at h2
  omega
 ·rintro ⟨h1, h2⟩
  rw [h1, h2]
  simp [fromN]
theorem T.tidyB_is (t : T) (h : t.chkN = 0) : t.tidyB = (t.kindsOk && numsOk t.numbers t.numbers.length) := by
 unfold T.tidyB numsOk
 rw [T.tidyN_is t 0 (T.chkN_form h), List.take_length, h]
 cases hk : t.kindsOk <;> by_cases hn : t.numbers = fromN 0 t.numbers.length
 ·simp
 ·simp
 ·rw [if_pos ⟨rfl, hn⟩, decide_eq_true hn]; rfl
 ·rw [if_neg (fun hh => hn hh.2), decide_eq_false hn]; rfl
set_option maxRecDepth 100000 in
set_option maxHeartbeats 2000000 in
theorem refTidy8_any (t : T) (A : Option Addr) (c : Nat) (w : World) (hN : t.nodes ≤ 1000000) (hin : T.In w (· < w.heap.size) t A) :
  Calls Tryz.prog 14 #[.agg (t.hd.cells (.slice A t.subs.length c)).toArray] w fun e w' => e = .returned (.bool t.tidyB) ∧ Below w.heap.size w w' := by
 have HIN := hide hin
 have HC := hide (fun (y : World) (hy : Below w.heap.size w y) => refCheck_any t A c y hN (hin.next hy))
 have HK := hide (fun (y : World) (hy : Below w.heap.size w y) => refKinds8_any 1000000 t A c y hN (by decide) (hin.next hy))
 have HNu := hide (fun (y : World) (hy : Below w.heap.size w y) => refNumbers8_any 1000000 t A c y hN (by decide) (hin.next hy))
 have HR := hide (T.tidyB_is t)
 have HB0 := hide (show t.chkN ≠ 0 → t.tidyB = false from fun h => by unfold T.tidyB; rw [decide_eq_false h]; rfl)
 have hlen := t.numbers_len
 clear hin
 generalize t.numbers = ns at *
 generalize t.tidyB = res at *
 generalize t.kindsOk = ko at *
 generalize t.chkN = ck at *
 obtain ⟨h, l⟩ := t
 obtain ⟨kind, s0, s1, s2, s3, num, mn, mx, bare⟩ := h
 have hbel := (Below.refl w.heap.size w).alloc (Nat.le_refl _) (.cells #[.int .i64 kind, .int .u64 s0, .int .u64 s1, .int .u64 s2, .int .u64 s3, .slice A l.length c, .int .i64 num, .int .i64 mn, .int .i64 mx, .bool bare] 27)
 have H0 := hide (And.intro (Blk.new w 27 #[.int .i64 kind, .int .u64 s0, .int .u64 s1, .int .u64 s2, .int .u64 s3, .slice A l.length c, .int .i64 num, .int .i64 mn, .int .i64 mx, .bool bare]) hbel)
 have c0 := H0.out.1.cell
 clear hbel
 simp only [T.hd, T.subs, Hd.cells] at HC HK HNu ⊢
 go_enter Tryz.func14, Tryz.ntmps14
 go_upto_region 1 with fail
 generalize (w.alloc (.cells #[.int .i64 kind, .int .u64 s0, .int .u64 s1, .int .u64 s2, .int .u64 s3, .slice A l.length c, .int .i64 num, .int .i64 mn, .int .i64 mx, .bool bare] 27)) = W at *
 go_wp2_with fail
 refine (HC.out _ H0.out.2).mono ?_
 rintro e w1 ⟨rfl, hb1⟩
 have H1 := hide (And.intro (H0.out.1.next hb1) (H0.out.2.trans (hb1.mono H0.out.2.size)))
 clear hb1 HC c0
 by_cases hck : ck = 0
 case neg =>
  have g0 : (ck != 0) = true := by rw [bne_iff_ne]; exact hck
  have HE := hide (HB0.out hck)
  go_wp2_with fail
  refine bodyPost_ret (v := .bool false) (by simp [results, Tryz.results14, go_sem]) rfl ?_
  exact ⟨by rw [HE.out], H1.out.2⟩
 case pos =>
  have HR2 := hide (HR.out hck)
  clear HR HB0
  subst hck
  have c0 := H1.out.1.cell
  go_wp2_with fail
  refine (HK.out _ H1.out.2).mono ?_
  rintro e w2 ⟨rfl, hb2⟩
  have H2 := hide (And.intro (H1.out.1.next hb2) (H1.out.2.trans (hb2.mono H1.out.2.size)))
  clear hb2 HK c0
  have c0 := H2.out.1.cell
  go_wp2_with fail
  refine (HNu.out _ H2.out.2).mono ?_
  rintro e w3 ⟨v, rfl, hown, hb3⟩
  have H3 := hide (H2.out.2.trans (hb3.mono H2.out.2.size))
  obtain ⟨A1, c1, rfl, m1, k1⟩ := hown.form
  have HKc := hide k1
  clear hb3 HNu c0 hown k1
  go_wp2_with fail
  go_loopw [3, 5] (fun ov kv wr => ∃ (k : Nat) (ok : Bool), kv = .int .i64 (k : Int) ∧ ov = .bool ok ∧ k ≤ ns.length ∧ ok = (ko && numsOk ns k) ∧ Below w3.heap.size w3 wr) (fun _ kv _ => ns.length - (intOf kv).toNat)
  case atStart => exact ⟨0, ko, rfl, rfl, Nat.zero_le _, by rw [numsOk_zero, Bool.and_true], Below.refl _ _⟩
  case round =>
   obtain ⟨k, ok, rfl, rfl, hk, hok, hbel⟩ := hrel
   have HB := hide hbel
   have HO := hide hok
   clear hok
   by_cases hlt : k < ns.length
   case neg =>
    have g1 : decide ((k : Int) < (ns.length : Int)) = false := decide_eq_false (by omega)
    have hke : k = ns.length := by omega
    subst hke
    have HE := hide (show ok = res by rw [HO.out, HR2.out])
    clear hbel
    go_wp2_with fail
    refine bodyPost_ret (v := .bool ok) (by simp [results, Tryz.results14, go_sem]) rfl ?_
    exact ⟨by rw [HE.out], H3.out.trans (HB.out.mono H3.out.size)⟩
   case pos =>
    have g1 : decide ((k : Int) < (ns.length : Int)) = true := decide_eq_true (by omega)
    have hs := List.getElem?_eq_getElem hlt
    obtain ⟨g, rfl, hg1, hg2, hgc⟩ := HKc.out k _ hs
    have hcell := (hbel.cell (p := ⟨g, k, none⟩) hg2).trans hgc
    have HNx := hide (numsOk_next hs)
    generalize ns[k] = nk at *
    clear hs hgc hbel
    cases ok with
    | false =>
     go_wp2_with fail
     go_roundw
     case rel => exact ⟨k + 1, false, by go_num, rfl, hlt, by rw [HNx.out, ← Bool.and_assoc, ← HO.out]; rfl, HB.out⟩
     case measure => simp [intOf]; omega
    | true =>
     by_cases hq : nk = (k : Int) + 1
     ·have g2 : (nk == (k : Int) + 1) = true := by rw [beq_iff_eq]; exact hq
      have HQ := hide (decide_eq_true hq)
      clear hq
      go_wp2_with fail
      go_roundw
      case rel => exact ⟨k + 1, true, by go_num, rfl, hlt, by rw [HNx.out, ← Bool.and_assoc, ← HO.out, HQ.out]; rfl, HB.out⟩
      case measure => simp [intOf]; omega
     ·have g2 : (nk == (k : Int) + 1) = false := by rw [beq_eq_false_iff_ne]; exact hq
      have HQ := hide (decide_eq_false hq)
      clear hq
      go_wp2_with fail
      go_roundw
      case rel => exact ⟨k + 1, false, by go_num, rfl, hlt, by rw [HNx.out, ← Bool.and_assoc, ← HO.out, HQ.out]; rfl, HB.out⟩
      case measure => simp [intOf]; omega
end Go.Proofs.YtpkcklpjbeginaaGreatDoor

/-! ## RefTxt8 -/
namespace Go.Proofs.YtpkcklpjbeginaaGreatDoor
open Go.RowKit

set_option maxRecDepth 100000 in
theorem one8_any (b : Nat) (hb : b < 256) (w : World) : Calls Tryz.prog 100 #[.int .i64 (b : Int)] w fun e w' => e = .returned (.string (byS b)) ∧ Below w.heap.size w w' := by
 have g2 : IntKind.u8.wrap (b : Int) = (b : Int) := wrapU8 hb
 have hal := (Below.refl w.heap.size w).alloc (Nat.le_refl _) (.cells #[.int .u8 (b : Int)] 5)
 have hcv := one_byte8 b hb w.heap.size (w.alloc (.cells #[.int .u8 (b : Int)] 5)) (by rw [(Blk.new w _ _).cell]; rfl)
 have HAL := hide hal
 clear hal
 go_enter Tryz.func100, Tryz.ntmps100
 go_wp2_with fail
 go_ret
 exact ⟨rfl, HAL.out⟩
set_option maxRecDepth 100000 in
theorem four8_any (b : Nat) (w : World) : Calls Tryz.prog 126 #[.int .i64 (b : Int)] w fun e w' => e = .returned (.bool (fourB b)) ∧ Below w.heap.size w w' := by
 by_cases e93 : b = 93
 ·have z93 : ((b : Int) == 93) = true := by rw [e93]; rfl
  have HE := hide (show fourB b = true from by rw [e93]; rfl)
  clear e93
  go_enter Tryz.func126, Tryz.ntmps126
  go_wp2_with fail
  go_ret
  exact ⟨by rw [HE.out]; rfl, Below.refl _ _⟩
 have z93 : ((b : Int) == 93) = false := beq_eq_false_iff_ne.2 (by omega)
 by_cases e91 : b = 91
 ·have z91 : ((b : Int) == 91) = true := by rw [e91]; rfl
  have HE := hide (show fourB b = true from by rw [e91]; rfl)
  clear e91
  go_enter Tryz.func126, Tryz.ntmps126
  go_wp2_with fail
  go_ret
  exact ⟨by rw [HE.out]; rfl, Below.refl _ _⟩
 have z91 : ((b : Int) == 91) = false := beq_eq_false_iff_ne.2 (by omega)
 by_cases e94 : b = 94
 ·have z94 : ((b : Int) == 94) = true := by rw [e94]; rfl
  have HE := hide (show fourB b = true from by rw [e94]; rfl)
  clear e94
  go_enter Tryz.func126, Tryz.ntmps126
  go_wp2_with fail
  go_ret
  exact ⟨by rw [HE.out]; rfl, Below.refl _ _⟩
 have z94 : ((b : Int) == 94) = false := beq_eq_false_iff_ne.2 (by omega)
 by_cases e45 : b = 45
 ·have z45 : ((b : Int) == 45) = true := by rw [e45]; rfl
  have HE := hide (show fourB b = true from by rw [e45]; rfl)
  clear e45
  go_enter Tryz.func126, Tryz.ntmps126
  go_wp2_with fail
  go_ret
  exact ⟨by rw [HE.out]; rfl, Below.refl _ _⟩
 have z45 : ((b : Int) == 45) = false := beq_eq_false_iff_ne.2 (by omega)
 have HE := hide (show fourB b = false from by simp [fourB, e93, e91, e94, e45])
 clear e93 e91 e94 e45
 go_enter Tryz.func126, Tryz.ntmps126
 go_wp2_with fail
 go_ret
 exact ⟨by rw [HE.out]; rfl, Below.refl _ _⟩
theorem toList_data9 (x y : ByteArray) (h : x.data.toList = y.data.toList) : x = y := by
 apply ByteArray.ext
 exact Array.toList_inj.1 h
theorem byApp (x y : ByteArray) : (x ++ y).size = x.size + y.size := ByteArray.size_append
set_option maxRecDepth 100000 in
set_option maxHeartbeats 8000000 in
theorem refItems8_any (S : Nat → Bool) (w : World) : Calls Tryz.prog 102 #[.agg (boolsC S).toArray] w fun e w' => e = .returned (.string (itemsP S)) ∧ Below w.heap.size w w' := by
 obtain ⟨res, hres⟩ : ∃ r, r = itemsP S := ⟨_, rfl⟩
 rw [← hres]
 have hal := (Below.refl w.heap.size w).alloc (Nat.le_refl _) (.cells (boolsC S).toArray 132)
 have H0 := hide (And.intro hal (Blk.new w 132 (boolsC S).toArray))
 have hbc : ∀ i, i < 256 → (boolsC S).toArray[i]? = some (.bool (S i)) := fun i hi => by rw [List.getElem?_toArray]; exact boolsC_at S i hi
 have HBC := hide hbc
 have HF := hide (fun (b : Nat) (y : World) => four8_any b y)
 have HO := hide (fun (b : Nat) (hb : b < 256) (y : World) => one8_any b hb y)
 have HRES := hide hres
 clear hal hbc hres
 go_enter Tryz.func102, Tryz.ntmps102
 go_upto_region 2 with fail
 generalize (w.alloc (.cells (boolsC S).toArray 132)) = W at *
 have hcell : ∀ (y : World) (hy : Blk y w.heap.size 132 (boolsC S).toArray) (i : Nat), i < 256 → y.cell? ⟨w.heap.size, i, none⟩ = some (.bool (S i)) := fun y hy i hi => by rw [hy.cell, HBC.out i hi]
 have HCell := hide hcell
 clear hcell
 have c93 := HCell.out W H0.out.2 93 (by decide)
 obtain ⟨P, hP⟩ : ∃ P : Nat → Bool, P = fun b => S b && !fourB b := ⟨_, rfl⟩
 have HPb := hide (fun b => show P b = (S b && !fourB b) from by rw [hP])
 have HRE := hide (show res.data.toList = (optB (S 93) 93).data.toList ++ ((rowsFrom P 0).data.toList ++ ((optB (S 91) 91).data.toList ++ ((optB (S 94) 94).data.toList ++ (optB (S 45) 45).data.toList))) from by rw [HRES.out, items_list8, hP])
 have HTot := hide (show (optB (S 93) 93).data.toList.length + (rowsFrom P 0).data.toList.length ≤ 780 from by
  have h1 := optB_len8 (S 93) 93
  have h2 := rowsFrom_len P
  omega)
 clear hP
 go_upto_if 7 with fail
 go_cut [3] (fun z wx => z = .string (optB (S 93) 93) ∧ wx = W)
 case first =>
  cases hs : S 93 with
  | true =>
   have HV := hide (show (.string ⟨#[93]⟩ : Value) = .string (optB (S 93) 93) from by rw [hs]; rfl)
   go_wp2_with fail
   go_meet
   case rel => exact ⟨HV.out, rfl⟩
  | false =>
   have HV := hide (show (.string ⟨#[]⟩ : Value) = .string (optB (S 93) 93) from by rw [hs]; rfl)
   go_wp2_with fail
   go_meet
   case rel => exact ⟨HV.out, rfl⟩
 case rest =>
 obtain ⟨hv8, hwc⟩ := hcut
 obtain rfl := hwc.symm
 subst hv8
 clear c93
 go_wp2_with fail
 go_loopw [3, 4] (fun sv bv wr => ∃ (b : Nat) (s : ByteArray), sv = .string s ∧ bv = .int .i64 (b : Int) ∧ b ≤ 256 ∧ s.data.toList ++ (rowsFrom P b).data.toList = (optB (S 93) 93).data.toList ++ (rowsFrom P 0).data.toList ∧ Blk wr w.heap.size 132 (boolsC S).toArray ∧ Below w.heap.size w wr) (fun _ bv _ => 256 - (intOf bv).toNat)
 case atStart => exact ⟨0, _, rfl, rfl, Nat.zero_le _, rfl, H0.out.2, H0.out.1⟩
 case round =>
  obtain ⟨b, s, rfl, rfl, hb, hcat, hblk, hbel⟩ := hrel
  have HC := hide hcat
  have HBL := hide (And.intro hblk hbel)
  have hsl : s.size ≤ 780 := by
   have h1 := congrArg List.length hcat
   rw [List.length_append, List.length_append, data_len] at h1
   have := HTot.out
   omega
  clear hcat hblk hbel
  by_cases hlt : b < 256
  ·have g1 : decide ((b : Int) < 256) = true := decide_eq_true (by omega)
   have cb := HCell.out wr HBL.out.1 b hlt
   have iw0 : IntKind.i64.wrap ((b : Int) + 1) = (b : Int) + 1 := wrapI (by omega) (by omega)
   have HPB := hide (HPb.out b)
   cases hSb : S b with
   | false =>
    have HK := hide (rowsFrom_skip (P := P) (b := b) (by omega) (by rw [HPB.out, hSb]; rfl))
    rw [hSb] at cb
    clear hSb
    go_wp2_with fail
    go_roundw
    case rel => exact ⟨b + 1, s, rfl, by go_num, hlt, by rw [← HK.out]; exact HC.out, HBL.out.1, HBL.out.2⟩
    case measure => simp [intOf]; omega
   | true =>
    rw [hSb] at cb
    have HF1 := hide (HF.out b wr)
    obtain ⟨fb, hfb⟩ : ∃ fb, fb = fourB b := ⟨_, rfl⟩
    rw [← hfb] at HF1
    have HPB2 := hide (show P b = !fb from by rw [HPB.out, hSb, ← hfb]; rfl)
    clear hfb hSb
    go_wp2_with fail
    refine HF1.out.mono ?_
    rintro e w2 ⟨rfl, hb2⟩
    have HJ0 := hide (And.intro (HBL.out.1.below hb2 HBL.out.1.lt) (HBL.out.2.trans (hb2.mono HBL.out.2.size)))
    clear hb2 HF1 cb
    cases fb with
    | true =>
     have HK := hide (rowsFrom_skip (P := P) (b := b) (by omega) HPB2.out)
     go_wp2_with fail
     go_roundw
     case rel => exact ⟨b + 1, s, rfl, by go_num, hlt, by rw [← HK.out]; exact HC.out, HJ0.out.1, HJ0.out.2⟩
     case measure => simp [intOf]; omega
    | false =>
     have HPt := hide (show P b = true from HPB2.out)
     go_wp2_with fail
     clear g1 iw0
     go_loopw [5] (fun ev wr => ∃ (e : Nat), ev = .int .i64 (e : Int) ∧ b ≤ e ∧ e ≤ 255 ∧ rowEnd P 256 b = rowEnd P 256 e ∧ Blk wr w.heap.size 132 (boolsC S).toArray ∧ Below w.heap.size w wr) (fun ev _ => 256 - (intOf ev).toNat)
     case atStart => exact ⟨b, rfl, Nat.le_refl _, by omega, rfl, HJ0.out.1, HJ0.out.2⟩
     case round =>
      obtain ⟨e, rfl, he1, he2, hre, hblk, hbel⟩ := hrel
      have HRE2 := hide hre
      have HJ := hide (And.intro hblk hbel)
      clear hre hblk hbel
      go_upto_region 9 with fail
      go_cut [34] (fun z wx => z = .bool (decide (e < 255) && P (e + 1)) ∧ Blk wx w.heap.size 132 (boolsC S).toArray ∧ Below w.heap.size w wx)
      case first =>
       by_cases hle : e < 255
       ·have g1 : decide ((e : Int) < 255) = true := decide_eq_true (by omega)
        have iw0 : IntKind.i64.wrap ((e : Int) + 1) = (e : Int) + 1 := wrapI (by omega) (by omega)
        have cb := HCell.out wr HJ.out.1 (e + 1) (by omega)
        have HPE := hide (HPb.out (e + 1))
        have n1 : ¬ (e : Int) + 1 < 0 := by omega
        have n2 : (e : Int) + 1 < 256 := by omega
        have n3 : ((e : Int) + 1).toNat = e + 1 := by omega
        cases hSe : S (e + 1) with
        | false =>
         have HV := hide (show (.bool false : Value) = .bool (decide (e < 255) && P (e + 1)) from by rw [HPE.out, hSe]; simp)
         rw [hSe] at cb
         clear hSe
         go_wp2_with fail
         go_meet
         case rel => exact ⟨HV.out, HJ.out.1, HJ.out.2⟩
        | true =>
         have HV := hide (show (.bool (!fourB (e + 1)) : Value) = .bool (decide (e < 255) && P (e + 1)) from by rw [HPE.out, hSe, decide_eq_true hle]; rfl)
         rw [hSe] at cb
         have HF1 := hide (HF.out (e + 1) wr)
         rw [show ((e + 1 : Nat) : Int) = (e : Int) + 1 by omega] at HF1
         clear hSe
         go_wp2_with fail
         refine HF1.out.mono ?_
         rintro e' w2 ⟨rfl, hb2⟩
         have HJ2 := hide (And.intro (HJ.out.1.below hb2 HJ.out.1.lt) (HJ.out.2.trans (hb2.mono HJ.out.2.size)))
         clear hb2 HF1 cb
         go_wp2_with fail
         go_meet
         case rel => exact ⟨HV.out, HJ2.out.1, HJ2.out.2⟩
       ·have g1 : decide ((e : Int) < 255) = false := decide_eq_false (by omega)
        have HV := hide (show (.bool false : Value) = .bool (decide (e < 255) && P (e + 1)) from by rw [decide_eq_false hle]; rfl)
        go_wp2_with fail
        go_meet
        case rel => exact ⟨HV.out, HJ.out.1, HJ.out.2⟩
      case rest =>
      obtain ⟨hz, k1, k2⟩ := hcut
      subst hz
      have HJ3 := hide (And.intro k1 k2)
      clear k1 k2 HJ
      cases hgo : (decide (e < 255) && P (e + 1)) with
      | true =>
       simp only [Bool.and_eq_true, decide_eq_true_eq] at hgo
       have HST := hide (rowEnd_step hgo.1 hgo.2)
       have hle := hgo.1
       have iw0 : IntKind.i64.wrap ((e : Int) + 1) = (e : Int) + 1 := wrapI (by omega) (by omega)
       clear hgo
       go_wp2_with fail
       go_roundw
       case rel => exact ⟨e + 1, by go_num, by omega, by omega, by rw [← HST.out]; exact HRE2.out, HJ3.out.1, HJ3.out.2⟩
       case measure => simp [intOf]; omega
      | false =>
       have hend : rowEnd P 256 b = e := by
        rw [HRE2.out]
        exact rowEnd_stop (fun h => by rw [decide_eq_true h.1, h.2] at hgo; cases hgo)
       have HNX := hide (show s.data.toList ++ ((rowT b e).data.toList ++ (rowsFrom P (e + 1)).data.toList) = (optB (S 93) 93).data.toList ++ (rowsFrom P 0).data.toList from by
        rw [← HC.out, rowsFrom_row (by omega) HPt.out, hend, app_toList])
       clear hgo hend
       have iw0 : IntKind.i64.wrap ((e : Int) + 1) = (e : Int) + 1 := wrapI (by omega) (by omega)
       have z1 : ¬ 9223372036854775807 < s.size + (byS b).size := by rw [byS_size]; omega
       have z2 : (s ++ byS b).size = s.size + 1 := by rw [byApp, byS_size]
       have z3 : ¬ 9223372036854775807 < (s ++ byS b).size + (byS e).size := by rw [z2, byS_size]; omega
       have z4 : ¬ 9223372036854775807 < (s ++ byS b).size + 1 := by rw [z2]; omega
       have z5 : ((s ++ byS b) ++ (⟨#[45]⟩ : ByteArray)).size = s.size + 2 := by rw [byApp, z2]; rfl
       have z6 : ¬ 9223372036854775807 < ((s ++ byS b) ++ (⟨#[45]⟩ : ByteArray)).size + (byS e).size := by rw [z5, byS_size]; omega
       have z7 : (byS b).size = 1 := rfl
       have z8 : (byS e).size = 1 := rfl
       by_cases d0 : e = b
       ·have y0 : IntKind.i64.wrap ((e : Int) - (b : Int)) = 0 := by rw [d0, Int.sub_self]; rfl
        have HE0 := hide d0
        have HO1 := hide (HO.out b hlt wc)
        clear d0
        go_wp2_with fail
        refine HO1.out.mono ?_
        rintro e' w3 ⟨rfl, hb3⟩
        have HJ4 := hide (And.intro (HJ3.out.1.below hb3 HJ3.out.1.lt) (HJ3.out.2.trans (hb3.mono HJ3.out.2.size)))
        clear hb3 HO1
        go_wp2_with fail
        go_roundw
        case rel => exact ⟨e + 1, _, rfl, by go_num, by omega, by rw [← HNX.out, app_toList, HE0.out, rowT_one, byS_toList, List.append_assoc], HJ4.out.1, HJ4.out.2⟩
        case measure => simp [intOf]; omega
       by_cases d1 : e = b + 1
       ·have y0 : IntKind.i64.wrap ((e : Int) - (b : Int)) = 1 := by rw [show (e : Int) - (b : Int) = 1 by omega]; rfl
        have HE0 := hide d1
        have HO1 := hide (HO.out b hlt wc)
        have HO2 := hide (fun (y : World) => HO.out e (by omega) y)
        clear d0 d1
        go_wp2_with fail
        refine HO1.out.mono ?_
        rintro e' w3 ⟨rfl, hb3⟩
        have HJ4 := hide (And.intro (HJ3.out.1.below hb3 HJ3.out.1.lt) (HJ3.out.2.trans (hb3.mono HJ3.out.2.size)))
        clear hb3 HO1
        go_wp2_with fail
        refine (HO2.out w3).mono ?_
        rintro e' w4 ⟨rfl, hb4⟩
        have HJ5 := hide (And.intro (HJ4.out.1.below hb4 HJ4.out.1.lt) (HJ4.out.2.trans (hb4.mono HJ4.out.2.size)))
        clear hb4 HO2
        go_wp2_with fail
        go_roundw
        case rel => exact ⟨e + 1, _, rfl, by go_num, by omega, by rw [← HNX.out, app_toList, app_toList, show (rowT b e).data.toList = [b.toUInt8, e.toUInt8] from by rw [HE0.out]; exact rowT_two b, byS_toList, byS_toList]; simp, HJ5.out.1, HJ5.out.2⟩
        case measure => simp [intOf]; omega
       ·obtain ⟨d, hd⟩ : ∃ d : Nat, d = e - b := ⟨_, rfl⟩
        have y0 : IntKind.i64.wrap ((e : Int) - (b : Int)) = (d : Int) := by rw [show (e : Int) - (b : Int) = (d : Int) by omega]; exact wrapI (by omega) (by omega)
        have y1 : ((d : Int) == 0) = false := beq_eq_false_iff_ne.2 (by omega)
        have y2 : ((d : Int) == 1) = false := beq_eq_false_iff_ne.2 (by omega)
        have HE0 := hide (show b + 2 ≤ e by omega)
        have HO1 := hide (HO.out b hlt wc)
        have HO2 := hide (fun (y : World) => HO.out e (by omega) y)
        clear d0 d1 hd
        go_wp2_with fail
        refine HO1.out.mono ?_
        rintro e' w3 ⟨rfl, hb3⟩
        have HJ4 := hide (And.intro (HJ3.out.1.below hb3 HJ3.out.1.lt) (HJ3.out.2.trans (hb3.mono HJ3.out.2.size)))
        clear hb3 HO1
        go_wp2_with fail
        refine (HO2.out w3).mono ?_
        rintro e' w4 ⟨rfl, hb4⟩
        have HJ5 := hide (And.intro (HJ4.out.1.below hb4 HJ4.out.1.lt) (HJ4.out.2.trans (hb4.mono HJ4.out.2.size)))
        clear hb4 HO2
        go_wp2_with fail
        go_roundw
        case rel => exact ⟨e + 1, _, rfl, by go_num, by omega, by rw [← HNX.out, app_toList, app_toList, app_toList, rowT_more HE0.out, byS_toList, byS_toList]; simp, HJ5.out.1, HJ5.out.2⟩
        case measure => simp [intOf]; omega
  ·have g1 : decide ((b : Int) < 256) = false := decide_eq_false (by omega)
   have hfin := HC.out
   rw [rowsFrom_end (by omega)] at hfin
   have HFn := hide (show s.data.toList = (optB (S 93) 93).data.toList ++ (rowsFrom P 0).data.toList from by rw [← hfin]; simp)
   clear hfin
   have c91 := HCell.out wr HBL.out.1 91 (by decide)
   have c94 := HCell.out wr HBL.out.1 94 (by decide)
   have c45 := HCell.out wr HBL.out.1 45 (by decide)
   obtain ⟨s91, e91⟩ : ∃ x, x = S 91 := ⟨_, rfl⟩
   obtain ⟨s94, e94⟩ : ∃ x, x = S 94 := ⟨_, rfl⟩
   obtain ⟨s45, e45⟩ : ∃ x, x = S 45 := ⟨_, rfl⟩
   have HR9 := hide (show res.data.toList = s.data.toList ++ ((optB s91 91).data.toList ++ ((optB s94 94).data.toList ++ (optB s45 45).data.toList)) from by rw [HRE.out, HFn.out, e91, e94, e45, List.append_assoc])
   rw [← e91] at c91
   rw [← e94] at c94
   rw [← e45] at c45
   clear e91 e94 e45
   have z0 : ∀ n, (optB true n).data.toList = [n.toUInt8] := fun n => rfl
   have HZ := hide z0
   clear z0
   cases s91 with
   | false =>
    cases s94 with
    | false =>
     cases s45 with
     | false =>
      have HV := hide (show s = res from toList_data9 _ _ (by rw [HR9.out]; simp [app_toList, optB, byS]))
      go_wp2_with fail
      go_ret
      exact ⟨by rw [← HV.out]; rfl, HBL.out.2⟩
     | true =>
      have HV := hide (show (s ++ (⟨#[45]⟩ : ByteArray)) = res from toList_data9 _ _ (by rw [HR9.out]; simp [app_toList, optB, byS]))
      go_wp2_with fail
      go_ret
      exact ⟨by rw [← HV.out]; rfl, HBL.out.2⟩
    | true =>
     cases s45 with
     | false =>
      have HV := hide (show (s ++ (⟨#[94]⟩ : ByteArray)) = res from toList_data9 _ _ (by rw [HR9.out]; simp [app_toList, optB, byS]))
      go_wp2_with fail
      go_ret
      exact ⟨by rw [← HV.out]; rfl, HBL.out.2⟩
     | true =>
      have HV := hide (show ((s ++ (⟨#[94]⟩ : ByteArray)) ++ (⟨#[45]⟩ : ByteArray)) = res from toList_data9 _ _ (by rw [HR9.out]; simp [app_toList, optB, byS]))
      go_wp2_with fail
      go_ret
      exact ⟨by rw [← HV.out]; rfl, HBL.out.2⟩
   | true =>
    cases s94 with
    | false =>
     cases s45 with
     | false =>
      have HV := hide (show (s ++ (⟨#[91]⟩ : ByteArray)) = res from toList_data9 _ _ (by rw [HR9.out]; simp [app_toList, optB, byS]))
      go_wp2_with fail
      go_ret
      exact ⟨by rw [← HV.out]; rfl, HBL.out.2⟩
     | true =>
      have HV := hide (show ((s ++ (⟨#[91]⟩ : ByteArray)) ++ (⟨#[45]⟩ : ByteArray)) = res from toList_data9 _ _ (by rw [HR9.out]; simp [app_toList, optB, byS]))
      go_wp2_with fail
      go_ret
      exact ⟨by rw [← HV.out]; rfl, HBL.out.2⟩
    | true =>
     cases s45 with
     | false =>
      have HV := hide (show ((s ++ (⟨#[91]⟩ : ByteArray)) ++ (⟨#[94]⟩ : ByteArray)) = res from toList_data9 _ _ (by rw [HR9.out]; simp [app_toList, optB, byS]))
      go_wp2_with fail
      go_ret
      exact ⟨by rw [← HV.out]; rfl, HBL.out.2⟩
     | true =>
      have HV := hide (show (((s ++ (⟨#[91]⟩ : ByteArray)) ++ (⟨#[94]⟩ : ByteArray)) ++ (⟨#[45]⟩ : ByteArray)) = res from toList_data9 _ _ (by rw [HR9.out]; simp [app_toList, optB, byS]))
      go_wp2_with fail
      go_ret
      exact ⟨by rw [← HV.out]; rfl, HBL.out.2⟩
set_option maxRecDepth 100000 in
set_option maxHeartbeats 8000000 in
theorem refSet8_any (S : Nat → Bool) (w : World) : Calls Tryz.prog 65 #[setV S] w fun e w' => e = .returned (.string (setP S)) ∧ Below w.heap.size w w' := by
 have HI := hide (fun (T : Nat → Bool) (y : World) => refItems8_any T y)
 have HBi := hide (fun (T : Nat → Bool) (y : World) => bits_any T y)
 have HN := hide (fun (y : World) => refNot_any S y)
 have HC := hide (fun (y : World) => refCount_any S y)
 have HFi := hide (fun (y : World) => refFirst_any S y)
 have b1 := Blk.new w 24 #[.int .u64 ((wd S 0 : Nat) : Int), .int .u64 ((wd S 1 : Nat) : Int), .int .u64 ((wd S 2 : Nat) : Int), .int .u64 ((wd S 3 : Nat) : Int)]
 have hB1 := (Below.refl w.heap.size w).alloc (Nat.le_refl _) (.cells #[.int .u64 ((wd S 0 : Nat) : Int), .int .u64 ((wd S 1 : Nat) : Int), .int .u64 ((wd S 2 : Nat) : Int), .int .u64 ((wd S 3 : Nat) : Int)] 24)
 have H0 := hide (And.intro hB1 b1)
 obtain ⟨res, hres⟩ : ∃ r, r = setP S := ⟨_, rfl⟩
 rw [← hres]
 unfold setP at hres
 have hcl := cntb_le S 256
 obtain ⟨n, hn⟩ : ∃ n, n = cntb S 256 := ⟨_, rfl⟩
 rw [← hn] at hres HC hcl
 have HNN := hide hn
 clear b1 hB1 hn
 unfold setV setC at HN HC HFi ⊢
 go_enter Tryz.func65, Tryz.ntmps65
 go_upto_region 1 with fail
 generalize (w.alloc (.cells #[.int .u64 ((wd S 0 : Nat) : Int), .int .u64 ((wd S 1 : Nat) : Int), .int .u64 ((wd S 2 : Nat) : Int), .int .u64 ((wd S 3 : Nat) : Int)] 24)) = w1 at *
 have c1 := H0.out.2.cell
 go_wp2_with fail
 refine (HC.out _).mono ?_
 rintro e w2 ⟨rfl, hb2⟩
 have H2 := hide (And.intro (H0.out.1.trans (hb2.mono H0.out.1.size)) (H0.out.2.below hb2 H0.out.2.lt))
 clear hb2 c1 H0 HC
 by_cases c256 : n = 256
 ·rw [if_pos c256] at hres
  have HRES := hide hres
  have z1 : ((n : Int) == 256) = true := by rw [c256]; rfl
  clear hres HNN c256
  go_wp2_with fail
  go_ret
  exact ⟨by rw [HRES.out]; rfl, H2.out.1⟩
 rw [if_neg c256] at hres
 have z1 : ((n : Int) == 256) = false := beq_eq_false_iff_ne.2 (by omega)
 have cs := H2.out.2.cell
 by_cases c1 : n = 1
 ·rw [if_pos c1] at hres
  have z2 : ((n : Int) == 1) = true := by rw [c1]; rfl
  obtain ⟨b0, k1, k2, k3⟩ := cntb_one (f := S) 256 (by rw [← HNN.out]; exact c1)
  have hfe := firstB_eq k1 k2 (fun j hj => k3 j (by omega) (by omega))
  rw [hfe.2, if_pos rfl] at HFi
  obtain ⟨b, hb⟩ : ∃ b, b = firstB S := ⟨_, rfl⟩
  have f1 : b < 256 := by rw [hb, hfe.1]; exact k1
  rw [← hb] at hres HFi
  have HRES := hide hres
  clear hres HNN c1 hb k1 k2 k3 hfe
  go_wp2_with fail
  refine (HFi.out _).mono ?_
  rintro e w3 ⟨rfl, hb3⟩
  have H3 := hide (H2.out.1.trans (hb3.mono H2.out.1.size))
  have HO1 := hide (one8_any b f1 w3)
  clear hb3 cs HFi
  go_wp2_with fail
  refine HO1.out.mono ?_
  rintro e w4 ⟨rfl, hb4⟩
  have H4 := hide (H3.out.trans (hb4.mono H3.out.size))
  have HQ := hide (show Calls Tryz.prog 24 #[.string (byS b), .bool true] w4 fun e w' => e = .returned (.string (quote1 b)) ∧ Below w4.heap.size w4 w' from by
   have h1 := refQuote8_any (byS b) true w4 (by rw [byS_size]; decide)
   rw [if_pos rfl, quote_one b f1] at h1
   exact h1)
  clear hb4 HO1
  go_wp2_with fail
  refine HQ.out.mono ?_
  rintro e w5 ⟨rfl, hb5⟩
  have H5 := hide (H4.out.trans (hb5.mono H4.out.size))
  clear hb5
  go_wp2_with fail
  go_ret
  exact ⟨by rw [HRES.out]; rfl, H5.out⟩
 rw [if_neg c1] at hres
 have z2 : ((n : Int) == 1) = false := beq_eq_false_iff_ne.2 (by omega)
 by_cases c0 : n = 0 ∨ 128 < n
 ·rw [if_pos c0] at hres
  have HIL := hide (items_len8 (fun b => !S b))
  obtain ⟨NS, hNS⟩ : ∃ NS : Nat → Bool, NS = fun b => !S b := ⟨_, rfl⟩
  rw [← hNS] at hres HIL HN
  obtain ⟨it, hit⟩ : ∃ it, it = itemsP NS := ⟨_, rfl⟩
  have HIn := hide (fun (y : World) => HI.out NS y)
  have HBn := hide (fun (y : World) => HBi.out NS y)
  rw [← hit] at hres HIL HIn
  have HRES := hide hres
  clear hres HNN hit hNS
  have hz := HIL.out
  have s1 : (⟨#[91, 94]⟩ : ByteArray).size = 2 := rfl
  have hsz1 : ¬ 9223372036854775807 < 2 + it.size := by omega
  have hsz2 : ¬ 9223372036854775807 < 2 + it.size + 1 := by omega
  clear s1
  unfold setV setC at HBn
  have HD := hide (show ((⟨#[91, 94]⟩ : ByteArray) ++ it) ++ (⟨#[93]⟩ : ByteArray) = res from by rw [HRES.out]; rfl)
  go_upto_region 6 with fail
  go_cut [20] (fun z wx => z = .bool true ∧ wx = w2)
  case first =>
   by_cases n0 : n = 0
   ·have z3 : ((n : Int) == 0) = true := by rw [n0]; rfl
    clear n0 c0
    go_wp2_with fail
    go_meet
    case rel => exact ⟨rfl, rfl⟩
   ·have z3 : ((n : Int) == 0) = false := beq_eq_false_iff_ne.2 (by omega)
    have z4 : decide ((128 : Int) < (n : Int)) = true := decide_eq_true (by omega)
    have z5 : 128 < n := by omega
    clear n0 c0
    go_wp2_with fail
    go_meet
    case rel => exact ⟨rfl, rfl⟩
  case rest =>
  obtain ⟨hv8, hwc⟩ := hcut
  obtain rfl := hwc.symm
  subst hv8
  go_wp2_with fail
  refine (HN.out _).mono ?_
  rintro e w3 ⟨rfl, hb3⟩
  have H3 := hide (H2.out.1.trans (hb3.mono H2.out.1.size))
  unfold setV setC
  clear hb3 cs
  go_wp2_with fail
  refine (HBn.out _).mono ?_
  rintro e w4 ⟨rfl, hb4⟩
  have H4 := hide (H3.out.trans (hb4.mono H3.out.size))
  clear hb4 HBn
  go_wp2_with fail
  refine (HIn.out _).mono ?_
  rintro e w5 ⟨rfl, hb5⟩
  have H5 := hide (H4.out.trans (hb5.mono H4.out.size))
  have hd := HD.out
  clear hb5 HIn
  go_wp2_with fail
  go_ret
  exact ⟨rfl, H5.out⟩
 rw [if_neg c0] at hres
 have z3 : ((n : Int) == 0) = false := beq_eq_false_iff_ne.2 (by omega)
 have z4 : decide ((128 : Int) < (n : Int)) = false := decide_eq_false (by omega)
 have z5 : ¬ 128 < n := by omega
 have HIL := hide (items_len8 S)
 obtain ⟨it, hit⟩ : ∃ it, it = itemsP S := ⟨_, rfl⟩
 have HIn := hide (fun (y : World) => HI.out S y)
 have HBn := hide (fun (y : World) => HBi.out S y)
 rw [← hit] at hres HIL HIn
 have hz := HIL.out
 unfold setV setC at HBn
 clear hit HNN c0
 by_cases htwo : it = ⟨#[94, 45]⟩
 ·rw [if_pos htwo] at hres
  have HRES := hide hres
  have q1 : (it.toList == (⟨#[94, 45]⟩ : ByteArray).toList) = true := by rw [htwo]; decide +kernel
  have q2 : it.toList = [94, 45] := by rw [htwo]; decide +kernel
  clear hres htwo
  go_wp2_with fail
  refine (HBn.out _).mono ?_
  rintro e w3 ⟨rfl, hb3⟩
  have H3 := hide (H2.out.1.trans (hb3.mono H2.out.1.size))
  clear hb3 cs HBn
  go_wp2_with fail
  refine (HIn.out _).mono ?_
  rintro e w4 ⟨rfl, hb4⟩
  have H4 := hide (H3.out.trans (hb4.mono H3.out.size))
  clear hb4 HIn
  go_wp2_with fail
  go_ret
  exact ⟨by rw [HRES.out]; rfl, H4.out⟩
 ·rw [if_neg htwo] at hres
  have q2 : ¬ it.toList = [94, 45] := fun e => htwo (by
   rw [ByteArray.toList_eq] at e
   exact toList_data9 _ _ e)
  have q1 : (it.toList == (⟨#[94, 45]⟩ : ByteArray).toList) = false := by
   rw [show (⟨#[94, 45]⟩ : ByteArray).toList = [94, 45] from by decide +kernel]
   exact beq_eq_false_iff_ne.2 q2
  have q3 : (it.toList == [94, 45]) = false := beq_eq_false_iff_ne.2 q2
  have HD := hide (show ((⟨#[91]⟩ : ByteArray) ++ it) ++ (⟨#[93]⟩ : ByteArray) = res from by rw [hres]; rfl)
  have hsz1 : ¬ 9223372036854775807 < 1 + it.size := by omega
  have hsz2 : ¬ 9223372036854775807 < 1 + it.size + 1 := by omega
  clear hres htwo
  go_wp2_with fail
  refine (HBn.out _).mono ?_
  rintro e w3 ⟨rfl, hb3⟩
  have H3 := hide (H2.out.1.trans (hb3.mono H2.out.1.size))
  clear hb3 cs HBn
  go_wp2_with fail
  refine (HIn.out _).mono ?_
  rintro e w4 ⟨rfl, hb4⟩
  have H4 := hide (H3.out.trans (hb4.mono H3.out.size))
  have hd := HD.out
  clear hb4 HIn
  go_wp2_with fail
  go_ret
  exact ⟨rfl, H4.out⟩
end Go.Proofs.YtpkcklpjbeginaaGreatDoor

/-! ## RefText8 -/
namespace Go.Proofs.YtpkcklpjbeginaaGreatDoor
open Go.RowKit

theorem nobig (n : Nat) (h : n ≤ 100000000000) : ¬ 9223372036854775807 < n := by omega
set_option maxRecDepth 100000 in
set_option maxHeartbeats 8000000 in
theorem refText8_any (N : Nat) : ∀ (t : T) (A : Option Addr) (c : Nat) (w : World), t.nodes ≤ N → N ≤ 1000000 → t.form = true → t.w64 → T.In w (· < w.heap.size) t A →
  Calls Tryz.prog 37 #[.agg (t.hd.cells (.slice A t.subs.length c)).toArray] w fun e w' => e = .returned (.string t.txt) ∧ Below w.heap.size w w' := by
 induction N with
 | zero => intro t A c w h; have := t.nodes_pos; omega
 | succ N ih =>
  intro t A c w hN hM hform hw64 hin
  have hfm := hform
  obtain ⟨h, l⟩ := t
  rw [T.w64] at hw64
  rw [T.form_eq, Bool.and_eq_true] at hfm
  have hlen0 := T.length_lt (T.mk h l)
  obtain ⟨kind, s0, s1, s2, s3, num, mn, mx, bare⟩ := h
  obtain ⟨res, hres⟩ : ∃ r, r = (T.mk ⟨kind, s0, s1, s2, s3, num, mn, mx, bare⟩ l).txt := ⟨_, rfl⟩
  rw [← hres]
  rw [T.txt] at hres
  have hkinds := form_kind hfm.1
  simp only [T.hd, T.subs] at hkinds hfm hres
  simp only [T.nodes, T.hd, T.subs, Hd.cells] at hlen0 hN ⊢
  have HFL := hide hfm.2
  have HNB := hide hN
  have HIH := hide (fun (s : T) (hs : s ∈ l) (A' : Option Addr) (c' : Nat) (y : World) (hi : T.In y (· < y.heap.size) s A') => ih s A' c' y (by have := TL.nodes_mem hs; omega) (by omega) (TL.form_mem hfm.2 hs) (TL.w64_mem hw64.2 hs) hi)
  have HW64 := hide hw64.1
  have HRES := hide hres
  have HK := hide hkinds
  have HIN := hide hin
  obtain ⟨bar, hbar⟩ : ∃ bar, bar = (kind == 6) := ⟨_, rfl⟩
  have HBar := hide hbar
  clear ih hfm hform hw64 hres hkinds hin hbar
  go_enter Tryz.func37, Tryz.ntmps37
  go_wp2_with fail
  go_loopw [3, 4] (fun sv kv wr => ∃ (k : Nat) (s : ByteArray), sv = .string s ∧ kv = .int .i64 (k : Int) ∧ k ≤ l.length ∧ s.data.toList = (TL.txt bar (l.take k)).data.toList ∧ Blk wr w.heap.size 27 #[.int .i64 kind, .int .u64 s0, .int .u64 s1, .int .u64 s2, .int .u64 s3, .slice A l.length c, .int .i64 num, .int .i64 mn, .int .i64 mx, .bool bare] ∧ Below w.heap.size w wr) (fun _ kv _ => l.length - (intOf kv).toNat)
  case atStart => exact ⟨0, _, rfl, rfl, Nat.zero_le _, rfl, Blk.new _ _ _, (Below.refl _ _).alloc (Nat.le_refl _) _⟩
  case round =>
   obtain ⟨k, s, rfl, rfl, hk, hs, hblk, hbel⟩ := hrel
   have HS := hide hs
   have HBL := hide (And.intro hblk hbel)
   have c0 := hblk.cell
   clear hs hblk hbel
   by_cases hlt : k < l.length
   ·have g1 : decide ((k : Int) < (l.length : Int)) = true := decide_eq_true (by omega)
    have hq := List.getElem?_eq_getElem hlt
    obtain ⟨bk, o, B', c', hA, hbk, hcs, hsub⟩ := TL.In.at_ (T.In_iff.1 HIN.out) hq
    have hmem := List.getElem_mem hlt
    have htk : l.take (k + 1) = l.take k ++ [l[k]] := List.take_succ_eq_append_getElem hlt
    have hpl : s.size + 1000 * (l[k]).nodes ≤ 1000 * TL.nodes l := by
     have h1 := TL.txt_len bar (l.take k) (TL.form_take l k HFL.out)
     have h2 := TL.nodes_split hlt
     have h3 := congrArg List.length HS.out
     rw [data_len, data_len] at h3
     omega
    have htl := T.txt_len (l[k]) (TL.form_mem HFL.out hmem)
    generalize l[k] = q at *
    subst hA
    obtain ⟨n0, n1, n2, n3, n4, n5, n6, n7, n8, n9⟩ := (hcs.same (same_of_below HBL.out.2) hbk).node
    have HTK := hide htk
    have HX := hide (HIH.out q hmem B' c')
    have HIQ := hide (fun (y : World) (hy : Below w.heap.size w y) => hsub.same (ok' := (· < y.heap.size)) (same_of_below hy) (fun x hx => Nat.lt_of_lt_of_le hx hy.size))
    have HSum := hide (And.intro hpl (And.intro htl HNB.out))
    clear hq hmem htk hcs hsub hbk hpl htl
    simp only [Hd.cells] at HX
    obtain ⟨tx, htx⟩ : ∃ tx, tx = q.txt := ⟨_, rfl⟩
    rw [← htx] at HX HSum
    have HTX := hide htx
    clear htx
    have z0 : ¬ 9223372036854775807 < s.size + 1 := nobig _ (by have := HSum.out; omega)
    have z1 : ¬ 9223372036854775807 < s.size + tx.size := nobig _ (by have := HSum.out; omega)
    have hkinds : (k = 0) ∨ (0 < k ∧ bar = false) ∨ (0 < k ∧ bar = true) := by
     rcases Nat.eq_zero_or_pos k with e | e
     ·exact .inl e
     ·cases bar
      ·exact .inr (.inl ⟨e, rfl⟩)
      ·exact .inr (.inr ⟨e, rfl⟩)
    rcases hkinds with hk0 | ⟨hk0, hb⟩ | ⟨hk0, hb⟩
    ·have gk : decide ((0 : Int) < (k : Int)) = false := decide_eq_false (by omega)
     have gk2 : ¬ (0 : Int) < (k : Int) := by omega
     have gk3 : ¬ 0 < k := by omega
     have HEQ := hide (show (if bar = true ∧ l.take k ≠ [] then [124] else []) = ([] : List UInt8) from by rw [hk0, if_neg (by rintro ⟨_, e⟩; exact e rfl)])
     clear hk0
     go_wp2_with fail
     refine (HX.out wr (HIQ.out wr HBL.out.2)).mono ?_
     rintro e w1 ⟨rfl, hb1⟩
     have H1 := hide (And.intro (HBL.out.1.below hb1 HBL.out.1.lt) (HBL.out.2.trans (hb1.mono HBL.out.2.size)))
     clear hb1
     go_wp2_with fail
     go_roundw
     case rel => exact ⟨k + 1, _, rfl, by go_num, hlt, by rw [HTK.out, txt_snoc, ← HTX.out]; rw [HEQ.out, ← HS.out]; simp [app_toList], H1.out.1, H1.out.2⟩
     case measure => simp [intOf]; omega
    ·have gk : decide ((0 : Int) < (k : Int)) = true := decide_eq_true (by omega)
     have gk3 : 0 < k := by omega
     have g6 : (kind == 6) = false := by rw [← HBar.out]; exact hb
     have HEQ := hide (show (if bar = true ∧ l.take k ≠ [] then [124] else []) = ([] : List UInt8) from by rw [hb, if_neg (by rintro ⟨e, _⟩; cases e)])
     clear hk0 hb
     go_wp2_with fail
     refine (HX.out wr (HIQ.out wr HBL.out.2)).mono ?_
     rintro e w1 ⟨rfl, hb1⟩
     have H1 := hide (And.intro (HBL.out.1.below hb1 HBL.out.1.lt) (HBL.out.2.trans (hb1.mono HBL.out.2.size)))
     clear hb1
     go_wp2_with fail
     go_roundw
     case rel => exact ⟨k + 1, _, rfl, by go_num, hlt, by rw [HTK.out, txt_snoc, ← HTX.out]; rw [HEQ.out, ← HS.out]; simp [app_toList], H1.out.1, H1.out.2⟩
     case measure => simp [intOf]; omega
    ·have gk : decide ((0 : Int) < (k : Int)) = true := decide_eq_true (by omega)
     have gk3 : 0 < k := by omega
     have g6 : (kind == 6) = true := by rw [← HBar.out]; exact hb
     have HEQ := hide (show (if bar = true ∧ l.take k ≠ [] then [124] else []) = ([124] : List UInt8) from by rw [hb, if_pos ⟨rfl, fun e => by have := congrArg List.length e; rw [List.length_take, List.length_nil] at this; omega⟩])
     have z2 : (s ++ (⟨#[124]⟩ : ByteArray)).size = s.size + 1 := by rw [byApp]; rfl
     have z3 : ¬ 9223372036854775807 < (s ++ (⟨#[124]⟩ : ByteArray)).size + tx.size := nobig _ (by rw [z2]; have := HSum.out; omega)
     clear hk0 hb
     go_wp2_with fail
     refine (HX.out wr (HIQ.out wr HBL.out.2)).mono ?_
     rintro e w1 ⟨rfl, hb1⟩
     have H1 := hide (And.intro (HBL.out.1.below hb1 HBL.out.1.lt) (HBL.out.2.trans (hb1.mono HBL.out.2.size)))
     clear hb1
     go_wp2_with fail
     go_roundw
     case rel => exact ⟨k + 1, _, rfl, by go_num, hlt, by rw [HTK.out, txt_snoc, ← HTX.out]; rw [HEQ.out, ← HS.out]; simp [app_toList], H1.out.1, H1.out.2⟩
     case measure => simp [intOf]; omega
   ·have g1 : decide ((k : Int) < (l.length : Int)) = false := decide_eq_false (by omega)
    have hse : s.data.toList = (TL.txt bar l).data.toList := by rw [HS.out, List.take_of_length_le (by omega)]
    have HSE := hide (toList_data9 _ _ hse)
    have hsl : s.size ≤ 1000 * TL.nodes l := by have := TL.txt_len bar l HFL.out; rw [HSE.out]; exact this
    have hnb := HNB.out
    have z0 : ¬ 9223372036854775807 < s.size + 1 := nobig _ (by omega)
    clear hse HIH HIN
    have hkinds := HK.out
    rcases hkinds with (rfl | rfl | rfl) | ⟨rfl, hl1⟩ | ⟨rfl, hl1, hmn, hmn2, hmx⟩ | hk
    ·have HR := hide (show res = ⟨#[94]⟩ from by rw [HRES.out, if_pos rfl]; rfl)
     clear HK HRES
     go_wp2_with fail
     go_ret
     exact ⟨by rw [HR.out]; rfl, HBL.out.2⟩
    ·have HR := hide (show res = ⟨#[36]⟩ from by rw [HRES.out, if_neg (by intro e; cases e), if_pos rfl]; rfl)
     clear HK HRES
     go_wp2_with fail
     go_ret
     exact ⟨by rw [HR.out]; rfl, HBL.out.2⟩
    ·have HR := hide (show res = setP (fun b => Hd.has ⟨2, s0, s1, s2, s3, num, mn, mx, bare⟩ b) from by rw [HRES.out, if_neg (by intro e; cases e), if_neg (by intro e; cases e), if_pos rfl])
     obtain ⟨q0, q1, q2, q3⟩ := HW64.out
     have HSt := hide (refSet8_any (fun b => Hd.has ⟨2, s0, s1, s2, s3, num, mn, mx, bare⟩ b) wr)
     rw [set_words ⟨2, s0, s1, s2, s3, num, mn, mx, bare⟩ q0 q1 q2 q3] at HSt
     rw [← HR.out] at HSt
     clear HK HRES HR q0 q1 q2 q3
     go_wp2_with fail
     refine HSt.out.mono ?_
     rintro e w1 ⟨rfl, hb1⟩
     have H1 := hide (HBL.out.2.trans (hb1.mono HBL.out.2.size))
     clear hb1
     go_wp2_with fail
     go_ret
     exact ⟨rfl, H1.out⟩
    ·have hbar : bar = false := by rw [HBar.out]; rfl
     have HR := hide (show ((⟨#[40]⟩ : ByteArray) ++ s) ++ (⟨#[41]⟩ : ByteArray) = res from by rw [HRES.out, if_neg (by intro e; cases e), if_neg (by intro e; cases e), if_neg (by intro e; cases e), if_pos rfl, HSE.out, hbar]; rfl)
     have z1 : ¬ 9223372036854775807 < 1 + s.size := nobig _ (by omega)
     have z2 : ((⟨#[40]⟩ : ByteArray) ++ s).size = 1 + s.size := by rw [byApp]; rfl
     have z3 : ¬ 9223372036854775807 < ((⟨#[40]⟩ : ByteArray) ++ s).size + 1 := nobig _ (by rw [z2]; omega)
     have z4 : ¬ 9223372036854775807 < 1 + s.size + 1 := nobig _ (by omega)
     clear HK HRES hbar
     have hr := HR.out
     go_wp2_with fail
     go_ret
     exact ⟨rfl, HBL.out.2⟩
    ·obtain ⟨a, ha1, ha2, ha3⟩ := rep_nat hmn hmn2 hmx
     have hbar : bar = false := by rw [HBar.out]; rfl
     subst ha1
     have HR := hide (show s ++ repP (a : Int) mx = res from by rw [HRES.out, if_neg (by intro e; cases e), if_neg (by intro e; cases e), if_neg (by intro e; cases e), if_neg (by intro e; cases e), if_pos rfl, HSE.out, hbar])
     have HRL := hide (repP_len a mx ha2 ha3)
     have HRep := hide (refRepeat8_any a mx (by omega) (by rcases ha3 with e | e; exact .inl e; exact .inr ⟨mx.toNat, by omega, by omega⟩) wr)
     obtain ⟨rp, hrp⟩ : ∃ rp, rp = repP (a : Int) mx := ⟨_, rfl⟩
     rw [← hrp] at HRep HRL HR
     have z1 : ¬ 9223372036854775807 < s.size + rp.size := nobig _ (by have := HRL.out; omega)
     clear HK HRES hbar hrp ha2 ha3 hmn hmn2 hmx
     have hr := HR.out
     go_wp2_with fail
     refine HRep.out.mono ?_
     rintro e w1 ⟨rfl, hb1⟩
     have H1 := hide (HBL.out.2.trans (hb1.mono HBL.out.2.size))
     clear hb1
     go_wp2_with fail
     go_ret
     exact ⟨rfl, H1.out⟩
    ·have HR := hide (show res = s from by rw [HRES.out, if_neg (by omega), if_neg (by omega), if_neg (by omega), if_neg (by omega), if_neg (by omega), HSE.out, HBar.out])
     have z3 : (kind == 3) = false := beq_eq_false_iff_ne.2 (by omega)
     have z4 : (kind == 4) = false := beq_eq_false_iff_ne.2 (by omega)
     have z2 : (kind == 2) = false := beq_eq_false_iff_ne.2 (by omega)
     have z7 : (kind == 7) = false := beq_eq_false_iff_ne.2 (by omega)
     have z8 : (kind == 8) = false := beq_eq_false_iff_ne.2 (by omega)
     clear HK HRES hk
     go_wp2_with fail
     go_ret
     exact ⟨by rw [HR.out]; rfl, HBL.out.2⟩
end Go.Proofs.YtpkcklpjbeginaaGreatDoor

/-! ## RefEre8 -/
namespace Go.Proofs.YtpkcklpjbeginaaGreatDoor
open Go.RowKit

/-- The number of the document's error of Ere. -/
def T.ereN (t : T) : Int := if t.chkN ≠ 0 then t.chkN else if t.tidyB = false then 13 else if 32 < t.nest then 11 else if 1024 < t.txt.size then 12 else 0
def T.ereT (t : T) : ByteArray := if t.ereN = 0 then t.txt else ⟨#[]⟩
set_option maxRecDepth 100000 in
set_option maxHeartbeats 4000000 in
theorem refEre8_any (t : T) (A : Option Addr) (c : Nat) (w : World) (hN : t.nodes ≤ 1000000) (hw : t.w64) (hin : T.In w (· < w.heap.size) t A) :
  Calls Tryz.prog 11 #[.agg (t.hd.cells (.slice A t.subs.length c)).toArray] w fun e w' => e = .returned (.tuple #[.string t.ereT, .int .i64 t.ereN]) ∧ Below w.heap.size w w' := by
 have hal := (Below.refl w.heap.size w).alloc (Nat.le_refl _) (.cells #[.int .i64 t.hd.kind, .int .u64 t.hd.s0, .int .u64 t.hd.s1, .int .u64 t.hd.s2, .int .u64 t.hd.s3, .slice A t.subs.length c, .int .i64 t.hd.num, .int .i64 t.hd.min, .int .i64 t.hd.max, .bool t.hd.bare] 27)
 have H0 := hide (And.intro (Blk.new w 27 #[.int .i64 t.hd.kind, .int .u64 t.hd.s0, .int .u64 t.hd.s1, .int .u64 t.hd.s2, .int .u64 t.hd.s3, .slice A t.subs.length c, .int .i64 t.hd.num, .int .i64 t.hd.min, .int .i64 t.hd.max, .bool t.hd.bare]) hal)
 have HC := hide (fun (y : World) (hy : Below w.heap.size w y) => refCheck_any t A c y hN (hin.next hy))
 have HTi := hide (fun (y : World) (hy : Below w.heap.size w y) => refTidy8_any t A c y hN (hin.next hy))
 have HNs := hide (fun (y : World) (hy : Below w.heap.size w y) => refNest8_any 1000000 t A c y hN (by decide) (hin.next hy))
 have HTx := hide (fun (hf : t.form = true) (y : World) (hy : Below w.heap.size w y) => refText8_any 1000000 t A c y hN (by decide) hf hw (hin.next hy))
 obtain ⟨rn, hrn⟩ : ∃ rn, rn = t.ereN := ⟨_, rfl⟩
 obtain ⟨rt, hrt⟩ : ∃ rt, rt = t.ereT := ⟨_, rfl⟩
 rw [← hrn, ← hrt]
 unfold T.ereT at hrt
 rw [← hrn] at hrt
 unfold T.ereN at hrn
 simp only [Hd.cells] at HC HTi HNs HTx ⊢
 clear hal hin
 go_enter Tryz.func11, Tryz.ntmps11
 go_upto_region 1 with fail
 generalize (w.alloc (.cells #[.int .i64 t.hd.kind, .int .u64 t.hd.s0, .int .u64 t.hd.s1, .int .u64 t.hd.s2, .int .u64 t.hd.s3, .slice A t.subs.length c, .int .i64 t.hd.num, .int .i64 t.hd.min, .int .i64 t.hd.max, .bool t.hd.bare] 27)) = W at *
 have c0 := H0.out.1.cell
 go_wp2_with fail
 refine (HC.out _ H0.out.2).mono ?_
 rintro e w1 ⟨rfl, hb1⟩
 have H1 := hide (And.intro (H0.out.1.next hb1) (H0.out.2.trans (hb1.mono H0.out.2.size)))
 have HCF := hide (fun (h : t.chkN = 0) => T.chkN_form h)
 clear hb1 HC c0
 generalize t.chkN = ck at *
 by_cases hck : ck = 0
 case neg =>
  have g0 : (ck != 0) = true := by rw [bne_iff_ne]; exact hck
  rw [if_pos hck] at hrn
  rw [hrn, if_neg hck] at hrt
  have HA := hide hrn
  have HB := hide hrt
  clear hrn hrt
  go_wp2_with fail
  refine bodyPost_ret (v := .tuple #[.string ⟨#[]⟩, .int .i64 ck]) (by simp [results, Tryz.results11, go_sem]) rfl ?_
  exact ⟨by rw [HA.out, HB.out], H1.out.2⟩
 case pos =>
  rw [if_neg (fun h => h hck)] at hrn
  have HFm := hide (HCF.out hck)
  subst hck
  have c0 := H1.out.1.cell
  go_wp2_with fail
  refine (HTi.out _ H1.out.2).mono ?_
  rintro e w2 ⟨rfl, hb2⟩
  have H2 := hide (And.intro (H1.out.1.next hb2) (H1.out.2.trans (hb2.mono H1.out.2.size)))
  clear hb2 HTi c0 HCF
  cases htb : t.tidyB with
  | false =>
   rw [if_pos htb] at hrn
   rw [hrn, if_neg (by decide)] at hrt
   have HA := hide hrn
   have HB := hide hrt
   clear hrn hrt htb
   go_wp2_with fail
   refine bodyPost_ret (v := .tuple #[.string ⟨#[]⟩, .int .i64 13]) (by simp [results, Tryz.results11, go_sem]) rfl ?_
   exact ⟨by rw [HA.out, HB.out], H2.out.2⟩
  | true =>
   rw [if_neg (by rw [htb]; intro e; cases e)] at hrn
   have c0 := H2.out.1.cell
   clear htb
   have hnn := t.nest_bd
   go_wp2_with fail
   refine (HNs.out _ H2.out.2).mono ?_
   rintro e w3 ⟨rfl, hb3⟩
   have H3 := hide (And.intro (H2.out.1.next hb3) (H2.out.2.trans (hb3.mono H2.out.2.size)))
   clear hb3 HNs c0
   generalize t.nest = ne at *
   by_cases hne : 32 < ne
   ·have g1 : decide ((32 : Int) < ne) = true := decide_eq_true hne
    rw [if_pos hne] at hrn
    rw [hrn, if_neg (by decide)] at hrt
    have HA := hide hrn
    have HB := hide hrt
    clear hrn hrt
    go_wp2_with fail
    refine bodyPost_ret (v := .tuple #[.string ⟨#[]⟩, .int .i64 11]) (by simp [results, Tryz.results11, go_sem]) rfl ?_
    exact ⟨by rw [HA.out, HB.out], H3.out.2⟩
   ·have g1 : decide ((32 : Int) < ne) = false := decide_eq_false hne
    rw [if_neg hne] at hrn
    have c0 := H3.out.1.cell
    have HX := hide (HTx.out HFm.out _ H3.out.2)
    have htl := T.txt_len t HFm.out
    obtain ⟨tx, htx⟩ : ∃ tx, tx = t.txt := ⟨_, rfl⟩
    rw [← htx] at HX htl hrn hrt
    have hts : tx.size ≤ 1000000000 := by omega
    clear htx htl
    go_wp2_with fail
    refine HX.out.mono ?_
    rintro e w4 ⟨rfl, hb4⟩
    have H4 := hide (H3.out.2.trans (hb4.mono H3.out.2.size))
    clear hb4 HX c0
    by_cases hlg : 1024 < tx.size
    ·have g2 : decide ((1024 : Int) < (tx.size : Int)) = true := decide_eq_true (by omega)
     rw [if_pos hlg] at hrn
     rw [hrn, if_neg (by decide)] at hrt
     have HA := hide hrn
     have HB := hide hrt
     clear hrn hrt
     go_wp2_with fail
     refine bodyPost_ret (v := .tuple #[.string ⟨#[]⟩, .int .i64 12]) (by simp [results, Tryz.results11, go_sem]) rfl ?_
     exact ⟨by rw [HA.out, HB.out], H4.out⟩
    ·have g2 : decide ((1024 : Int) < (tx.size : Int)) = false := decide_eq_false (by omega)
     rw [if_neg hlg] at hrn
     rw [hrn, if_pos rfl] at hrt
     have HA := hide hrn
     have HB := hide hrt
     clear hrn hrt
     go_wp2_with fail
     refine bodyPost_ret (v := .tuple #[.string tx, .int .i64 0]) (by simp [results, Tryz.results11, go_sem]) rfl ?_
     exact ⟨by rw [HA.out, HB.out], H4.out⟩
end Go.Proofs.YtpkcklpjbeginaaGreatDoor
