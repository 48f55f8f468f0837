/- Strs8: strconv.Itoa, the methods of strings.Builder, strings.IndexByte: their contracts off the shelf. (Printed by gen_strs8.py.)
Dec8: trawlref03.Decimal, spell.repeat, trawlref08.repeat: a repeat's text. (Printed by gen_dec8.py.)
Rep8: spell.repeat, trawlref08.repeat: a repeat's text. (Printed by gen_rep8.py.) -/
import Derived.Test.YtpkcklpjbeginaaGreatDoorProg
import Derived.Test.YtpkcklpjbeginaaGreatDoorMem
import Derived.Test.YtpkcklpjbeginaaGreatDoorSpellP
import Derived.Shelf.Strconv.Itoa3
import Derived.Shelf.Strings.BuilderK
import Derived.Shelf.Strings.BuilderF
import Derived.Shelf.Small.Strs
import Derived.Lib.AppendIntMem
set_option linter.unusedSimpArgs false
set_option linter.unusedVariables false
set_option linter.unnecessarySimpa false

/-! ## Strs8 -/
namespace Go.Proofs.YtpkcklpjbeginaaGreatDoor
open Go.RowKit

def strRen8 : Go.Shelf.Ren := ⟨fun | 129 => 177 | 137 => 51 | 166 => 59 | 167 => 58 | 169 => 34 | 170 => 33 | 171 => 96 | 217 => 86 | 240 => 90 | 243 => 125 | 246 => 145 | 266 => 118 | 276 => 119 | 283 => 162 | 284 => 163 | 285 => 164 | 286 => 165 | 317 => 176 | 318 => 178 | 319 => 179 | 320 => 180 | 337 => 185 | 338 => 121 | n => n, fun | 0 => 0 | 2 => 2 | 3 => 3 | 4 => 4 | 5 => 5 | 9 => 9 | 20 => 20 | 37 => 59 | 46 => 92 | 51 => 204 | 53 => 22 | 70 => 58 | 72 => 61 | 75 => 32 | 80 => 64 | 127 => 100 | 164 => 112 | 171 => 192 | 173 => 194 | 212 => 203 | 213 => 205 | 232 => 210 | 233 => 183 | n => n, fun | 17 => 24 | 18 => 25 | 19 => 23 | n => n⟩
theorem itoaLays8 : Lays.n171 Tryz.prog strRen8 where
 mixed := by kernel_rfl
 f129 := Tryz.func177.trans (congrArg some (by kernel_rfl))
 f171 := Tryz.func96.trans (congrArg some (by kernel_rfl))
 f243 := Tryz.func125.trans (congrArg some (by kernel_rfl))
 f246 := Tryz.func145.trans (congrArg some (by kernel_rfl))
 f283 := Tryz.func162.trans (congrArg some (by kernel_rfl))
 f284 := Tryz.func163.trans (congrArg some (by kernel_rfl))
 f285 := Tryz.func164.trans (congrArg some (by kernel_rfl))
 f286 := Tryz.func165.trans (congrArg some (by kernel_rfl))
 f317 := Tryz.func176.trans (congrArg some (by kernel_rfl))
 f318 := Tryz.func178.trans (congrArg some (by kernel_rfl))
 f319 := Tryz.func179.trans (congrArg some (by kernel_rfl))
 f320 := Tryz.func180.trans (congrArg some (by kernel_rfl))
 f337 := Tryz.func185.trans (congrArg some (by kernel_rfl))
 f338 := Tryz.func121.trans (congrArg some (by kernel_rfl))
 t0 := Tryz.underlying0
 a0 := Tryz.isAgg0
 z0 := Tryz.sizeOf0
 v0 := Tryz.zeroValue0
 t2 := Tryz.underlying2
 a2 := Tryz.isAgg2
 z2 := Tryz.sizeOf2
 v2 := Tryz.zeroValue2
 t3 := Tryz.underlying3
 a3 := Tryz.isAgg3
 z3 := Tryz.sizeOf3
 v3 := Tryz.zeroValue3
 t4 := Tryz.underlying4
 a4 := Tryz.isAgg4
 z4 := Tryz.sizeOf4
 v4 := Tryz.zeroValue4
 t5 := Tryz.underlying5
 a5 := Tryz.isAgg5
 z5 := Tryz.sizeOf5
 v5 := Tryz.zeroValue5
 t9 := Tryz.underlying9
 a9 := Tryz.isAgg9
 z9 := Tryz.sizeOf9
 v9 := Tryz.zeroValue9
 t20 := Tryz.underlying20
 a20 := Tryz.isAgg20
 z20 := Tryz.sizeOf20
 v20 := Tryz.zeroValue20
 t37 := Tryz.underlying59
 a37 := Tryz.isAgg59
 z37 := Tryz.sizeOf59
 v37 := Tryz.zeroValue59
 t46 := Tryz.underlying92
 a46 := Tryz.isAgg92
 z46 := Tryz.sizeOf92
 v46 := Tryz.zeroValue92
 t51 := Tryz.underlying204
 a51 := Tryz.isAgg204
 z51 := Tryz.sizeOf204
 v51 := Tryz.zeroValue204
 t53 := Tryz.underlying22
 a53 := Tryz.isAgg22
 z53 := Tryz.sizeOf22
 v53 := Tryz.zeroValue22
 t171 := Tryz.underlying192
 a171 := Tryz.isAgg192
 z171 := Tryz.sizeOf192
 v171 := Tryz.zeroValue192
 t173 := Tryz.underlying194
 a173 := Tryz.isAgg194
 z173 := Tryz.sizeOf194
 v173 := Tryz.zeroValue194
 t212 := Tryz.underlying203
 a212 := Tryz.isAgg203
 z212 := Tryz.sizeOf203
 v212 := Tryz.zeroValue203
 t213 := Tryz.underlying205
 a213 := Tryz.isAgg205
 z213 := Tryz.sizeOf205
 t232 := Tryz.underlying210
 a232 := Tryz.isAgg210
 z232 := Tryz.sizeOf210
 v232 := Tryz.zeroValue210
 t233 := Tryz.underlying183
 a233 := Tryz.isAgg183
 z233 := Tryz.sizeOf183
 v233 := Tryz.zeroValue183
 g17 := by kernel_rfl
 g18 := by kernel_rfl
 g19 := by kernel_rfl
theorem itoaLays8M : LaysM.n171 Tryz.prog strRen8 :=
 { itoaLays8 with
  i0 := by kernel_rfl
  i2 := by kernel_rfl
  i3 := by kernel_rfl
  i4 := by kernel_rfl
  i5 := by kernel_rfl
  i9 := by kernel_rfl
  i20 := by kernel_rfl
  i37 := by kernel_rfl
  i46 := by kernel_rfl
  i51 := by kernel_rfl
  i53 := by kernel_rfl
  i171 := by kernel_rfl
  i173 := by kernel_rfl
  i212 := by kernel_rfl
  i232 := by kernel_rfl
  i233 := by kernel_rfl
  m17 := by kernel_rfl
  m18 := by kernel_rfl
  m19 := by kernel_rfl
 }
theorem wsLays8 : Lays.n166 Tryz.prog strRen8 where
 mixed := by kernel_rfl
 f166 := Tryz.func59.trans (congrArg some (by kernel_rfl))
 f240 := Tryz.func90.trans (congrArg some (by kernel_rfl))
 f276 := Tryz.func119.trans (congrArg some (by kernel_rfl))
 t0 := Tryz.underlying0
 a0 := Tryz.isAgg0
 z0 := Tryz.sizeOf0
 v0 := Tryz.zeroValue0
 t3 := Tryz.underlying3
 a3 := Tryz.isAgg3
 z3 := Tryz.sizeOf3
 v3 := Tryz.zeroValue3
 t4 := Tryz.underlying4
 a4 := Tryz.isAgg4
 z4 := Tryz.sizeOf4
 v4 := Tryz.zeroValue4
 t9 := Tryz.underlying9
 a9 := Tryz.isAgg9
 z9 := Tryz.sizeOf9
 v9 := Tryz.zeroValue9
 t20 := Tryz.underlying20
 a20 := Tryz.isAgg20
 z20 := Tryz.sizeOf20
 v20 := Tryz.zeroValue20
 t37 := Tryz.underlying59
 a37 := Tryz.isAgg59
 z37 := Tryz.sizeOf59
 v37 := Tryz.zeroValue59
 t70 := Tryz.underlying58
 a70 := Tryz.isAgg58
 z70 := Tryz.sizeOf58
 v70 := Tryz.zeroValue58
 t72 := Tryz.underlying61
 a72 := Tryz.isAgg61
 z72 := Tryz.sizeOf61
 v72 := Tryz.zeroValue61
 t75 := Tryz.underlying32
 a75 := Tryz.isAgg32
 z75 := Tryz.sizeOf32
 v75 := Tryz.zeroValue32
 t164 := Tryz.underlying112
 a164 := Tryz.isAgg112
 z164 := Tryz.sizeOf112
 v164 := Tryz.zeroValue112
theorem wbLays8 : Lays.n167 Tryz.prog strRen8 where
 mixed := by kernel_rfl
 f167 := Tryz.func58.trans (congrArg some (by kernel_rfl))
 f240 := Tryz.func90.trans (congrArg some (by kernel_rfl))
 f276 := Tryz.func119.trans (congrArg some (by kernel_rfl))
 t0 := Tryz.underlying0
 a0 := Tryz.isAgg0
 z0 := Tryz.sizeOf0
 v0 := Tryz.zeroValue0
 t4 := Tryz.underlying4
 a4 := Tryz.isAgg4
 z4 := Tryz.sizeOf4
 v4 := Tryz.zeroValue4
 t5 := Tryz.underlying5
 a5 := Tryz.isAgg5
 z5 := Tryz.sizeOf5
 v5 := Tryz.zeroValue5
 t9 := Tryz.underlying9
 a9 := Tryz.isAgg9
 z9 := Tryz.sizeOf9
 v9 := Tryz.zeroValue9
 t20 := Tryz.underlying20
 a20 := Tryz.isAgg20
 z20 := Tryz.sizeOf20
 v20 := Tryz.zeroValue20
 t37 := Tryz.underlying59
 a37 := Tryz.isAgg59
 z37 := Tryz.sizeOf59
 v37 := Tryz.zeroValue59
 t70 := Tryz.underlying58
 a70 := Tryz.isAgg58
 z70 := Tryz.sizeOf58
 v70 := Tryz.zeroValue58
 t72 := Tryz.underlying61
 a72 := Tryz.isAgg61
 z72 := Tryz.sizeOf61
 v72 := Tryz.zeroValue61
 t75 := Tryz.underlying32
 a75 := Tryz.isAgg32
 z75 := Tryz.sizeOf32
 v75 := Tryz.zeroValue32
 t164 := Tryz.underlying112
 a164 := Tryz.isAgg112
 z164 := Tryz.sizeOf112
 v164 := Tryz.zeroValue112
theorem strLays8 : Lays.n169 Tryz.prog strRen8 where
 mixed := by kernel_rfl
 f169 := Tryz.func34.trans (congrArg some (by kernel_rfl))
 t0 := Tryz.underlying0
 a0 := Tryz.isAgg0
 z0 := Tryz.sizeOf0
 v0 := Tryz.zeroValue0
 t3 := Tryz.underlying3
 a3 := Tryz.isAgg3
 z3 := Tryz.sizeOf3
 v3 := Tryz.zeroValue3
 t9 := Tryz.underlying9
 a9 := Tryz.isAgg9
 z9 := Tryz.sizeOf9
 v9 := Tryz.zeroValue9
 t37 := Tryz.underlying59
 a37 := Tryz.isAgg59
 z37 := Tryz.sizeOf59
 v37 := Tryz.zeroValue59
 t70 := Tryz.underlying58
 a70 := Tryz.isAgg58
 z70 := Tryz.sizeOf58
 v70 := Tryz.zeroValue58
 t72 := Tryz.underlying61
 a72 := Tryz.isAgg61
 z72 := Tryz.sizeOf61
 v72 := Tryz.zeroValue61
 t127 := Tryz.underlying100
 a127 := Tryz.isAgg100
 z127 := Tryz.sizeOf100
 v127 := Tryz.zeroValue100
theorem lenLays8 : Lays.n170 Tryz.prog strRen8 where
 mixed := by kernel_rfl
 f170 := Tryz.func33.trans (congrArg some (by kernel_rfl))
 t0 := Tryz.underlying0
 a0 := Tryz.isAgg0
 z0 := Tryz.sizeOf0
 v0 := Tryz.zeroValue0
 t3 := Tryz.underlying3
 a3 := Tryz.isAgg3
 z3 := Tryz.sizeOf3
 v3 := Tryz.zeroValue3
 t37 := Tryz.underlying59
 a37 := Tryz.isAgg59
 z37 := Tryz.sizeOf59
 v37 := Tryz.zeroValue59
 t70 := Tryz.underlying58
 a70 := Tryz.isAgg58
 z70 := Tryz.sizeOf58
 v70 := Tryz.zeroValue58
 t72 := Tryz.underlying61
 a72 := Tryz.isAgg61
 z72 := Tryz.sizeOf61
 v72 := Tryz.zeroValue61
theorem bldExtra8 : Builder.Extra Tryz.prog strRen8 where
 sizeBuilder := by kernel_rfl
 liesBuilder := by kernel_rfl
 t5 := Tryz.underlying5
 a5 := Tryz.isAgg5
 z5 := Tryz.sizeOf5
 v5 := Tryz.zeroValue5
 infoByte := by kernel_rfl
 cellsByte := by kernel_rfl
 sizeByte := by kernel_rfl
 neB5 := by decide
end Go.Proofs.YtpkcklpjbeginaaGreatDoor

/-! ## Dec8 -/
namespace Go.Proofs.YtpkcklpjbeginaaGreatDoor
open Go.RowKit

theorem one_byte8 (fb : Nat) (hb : fb < 256) (g : Nat) (y : World) (h : y.cell? ⟨g, 0, none⟩ = some (.int .u8 (fb : Int))) : (convert 59 9 (.slice (some ⟨g, 0, none⟩) 1 1)).run Tryz.prog y = .ok (.string (byS fb)) y := by
 refine run_convert_bytes_back y 59 9 5 ⟨g, 0, none⟩ 1 [fb.toUInt8] Tryz.underlying59 Tryz.underlying5 Tryz.underlying9 fun j hj => ?_
 obtain rfl : j = 0 := by simpa using hj
 rw [Addr.add_lit]
 simp only [Nat.add_zero, List.getElem_cons_zero]
 rw [h, show fb.toUInt8.toNat = fb from by simp [Nat.toUInt8]; omega]
theorem dec_len (u : Nat) : (Lib.decDigits u).length ≤ u + 1 := by
 induction u using Nat.strongRecOn with
 | ind u ih =>
  rw [Lib.decDigits]
  split
  ·simp
  ·have := ih (u / 10) (by omega)
   rw [List.length_append]
   simp
   omega
theorem ofList_toList (l : List UInt8) : (⟨l.toArray⟩ : ByteArray).data.toList = l := rfl
theorem decP_toList (n : Nat) : (decP n).data.toList = Lib.decDigits n := by
 unfold decP
 exact ofList_toList _
theorem byS_size (n : Nat) : (byS n).size = 1 := rfl
theorem dec_more (m : Nat) (h : ¬ m / 10 = 0) : Lib.decDigits m = Lib.decDigits (m / 10) ++ [UInt8.ofNat (48 + m % 10)] := by
 rw [Lib.decDigits, dif_neg (by omega)]
set_option maxRecDepth 100000 in
set_option maxHeartbeats 1000000 in
theorem decimal_any (n : Nat) (hn : n ≤ 1000000) (w : World) : Calls Tryz.prog 105 #[.int .i64 (n : Int)] w fun e w' => e = .returned (.string (decP n)) ∧ Below w.heap.size w w' := by
 have n0 : ¬ (n : Int) < 0 := by omega
 have n1 : decide ((n : Int) < 0) = false := decide_eq_false n0
 go_enter Tryz.func105, Tryz.ntmps105
 go_wp2_with fail
 go_loopw [0, 3] (fun nv sv wr => ∃ (m : Nat) (s : ByteArray), nv = .int .i64 (m : Int) ∧ sv = .string s ∧ m ≤ n ∧ Lib.decDigits n = Lib.decDigits m ++ s.data.toList ∧ Below w.heap.size w wr) (fun nv _ _ => (intOf nv).toNat)
 case atStart => exact ⟨n, ⟨#[]⟩, rfl, rfl, Nat.le_refl _, by simp, Below.refl _ _⟩
 case round =>
  obtain ⟨m, s, rfl, rfl, hm, hd, hb⟩ := hrel
  have hr : Int.tmod (m : Int) 10 = ((m % 10 : Nat) : Int) := by rw [Int.tmod_eq_emod_of_nonneg (by omega)]; omega
  have hq : Int.tdiv (m : Int) 10 = ((m / 10 : Nat) : Int) := by rw [Int.tdiv_eq_ediv_of_nonneg (by omega)]; omega
  obtain ⟨d, hdd⟩ : ∃ d, d = m % 10 := ⟨_, rfl⟩
  obtain ⟨q, hqq⟩ : ∃ q, q = m / 10 := ⟨_, rfl⟩
  rw [← hdd] at hr
  rw [← hqq] at hq
  have hqw : wrap64 (q : Int) = (q : Int) := by unfold wrap64; omega
  have d0 : ¬ (d : Int) < 0 := by omega
  have d1 : decide ((d : Int) < 0) = false := decide_eq_false d0
  have d9 : d < 10 := by omega
  obtain ⟨cd, hcd⟩ : ∃ cd, cd = 48 + d := ⟨_, rfl⟩
  have h48 : (48 : Int) + (d : Int) = (cd : Int) := by omega
  have hcv := one_byte8 cd (by omega) wr.heap.size (wr.alloc (.cells #[.int .u8 (cd : Int)] 5)) (by rw [(Blk.new wr _ _).cell]; rfl)
  have hcw : IntKind.u8.wrap (cd : Int) = (cd : Int) := by rw [IntKind.wrap_u8']; omega
  have hb2 := hb.alloc hb.size (.cells #[.int .u8 (cd : Int)] 5)
  have hfin : (byS cd ++ s).data.toList = UInt8.ofNat (48 + m % 10) :: s.data.toList := by rw [app_toList, byS_toList, List.singleton_append, hcd, hdd]
  have HFN := hide hfin
  have hsl : s.size ≤ 1000001 := by
   have h1 := dec_len n
   rw [hd, List.length_append] at h1
   have h2 : s.data.toList.length = s.size := Array.length_toList
   omega
  have hsz : ¬ 9223372036854775807 < (byS cd).size + s.size := by rw [byS_size]; omega
  have hmore : ¬ q = 0 → Lib.decDigits n = Lib.decDigits q ++ (byS cd ++ s).data.toList := fun hz => by
   rw [hfin, hd, dec_more m (by rw [← hqq]; exact hz), ← hqq, List.append_assoc]
   rfl
  have HM := hide (And.intro hmore (show ¬ q = 0 → q ≤ n ∧ q < m from fun hz => by omega))
  have HC := hide hcd
  clear hmore
  have HB := hide (And.intro hd hb2)
  clear hcd hfin hb2
  have HD := hide (And.intro hdd hqq)
  clear hd hb hdd hqq
  by_cases hz : q = 0
  ·have z1 : ((q : Int) == 0) = true := by rw [hz]; rfl
   have z2 : (q : Int) = 0 := by omega
   go_wp2_with fail
   go_ret
   refine ⟨?_, HB.out.2⟩
   have e : byS cd ++ s = decP n := by
    apply ByteArray.ext
    apply Array.toList_inj.1
    rw [decP_toList, HFN.out, HB.out.1, Lib.decDigits, dif_pos (by have := HD.out.2; omega)]
    rw [show m % 10 = m by have := HD.out.2; omega, List.singleton_append]
   rw [← e]
   rfl
  ·have z1 : ((q : Int) == 0) = false := by rw [beq_eq_false_iff_ne]; omega
   have z2 : ¬ (q : Int) = 0 := by omega
   go_wp2_with fail
   go_roundw
   case rel => exact ⟨q, byS cd ++ s, by rw [hqw], rfl, (HM.out.2 hz).1, HM.out.1 hz, HB.out.2⟩
   case measure =>
    rw [hqw]
    have := (HM.out.2 hz).2
    show (q : Int).toNat < (m : Int).toNat
    omega
end Go.Proofs.YtpkcklpjbeginaaGreatDoor

/-! ## Rep8 -/
namespace Go.Proofs.YtpkcklpjbeginaaGreatDoor
open Go.RowKit

/-- The table that strconv reads. -/
def Tab8 (w : World) : Prop := Lib.TabIs Tryz.prog w "internal/strconv.uint64pow10" .u64 Lib.pow10Tab
theorem decP_size (n : Nat) : (decP n).size ≤ n + 1 := by
 have h := dec_len n
 have e : (decP n).size = (Lib.decDigits n).length := by
  have h1 : (decP n).data.toList.length = (decP n).size := Array.length_toList
  rw [← h1, decP_toList]
 omega
theorem itoa8_any (n : Nat) (hn : n ≤ 1000000) (w : World) (htab : Tab8 w) : Calls Tryz.prog 96 #[.int .i64 (n : Int)] w fun e w' => e = .returned (.string (decP n)) ∧ Below w.heap.size w w' := by
 refine (Any.strconv_Itoa itoaLays8M (n : Int) (by omega) (by omega) w htab).mono ?_
 rintro e w' ⟨rfl, k, os, rfl⟩
 refine ⟨?_, Lib.below_grow _ w (Nat.le_refl _) k os⟩
 unfold decP Lib.itoa
 rw [if_neg (by omega), Int.toNat_natCast]
set_option maxRecDepth 100000 in
set_option maxHeartbeats 1000000 in
theorem repeat8_any (a : Nat) (b : Int) (ha : a ≤ 1000) (hb : b = -1 ∨ ∃ n : Nat, n ≤ 1000 ∧ b = (n : Int)) (w : World) (htab : ∀ y, Below w.heap.size w y → Tab8 y) : Calls Tryz.prog 61 #[.int .i64 (a : Int), .int .i64 b] w fun e w' => e = .returned (.string (repP (a : Int) b)) ∧ Below w.heap.size w w' := by
 have hda := decP_size a
 have HT := hide (fun (n : Nat) (hn : n ≤ 1000) (y : World) (hy : Below w.heap.size w y) => itoa8_any n (by omega) y (htab y hy))
 clear htab
 rcases hb with rfl | ⟨n, hn, rfl⟩
 ·by_cases a0 : a = 0
  ·subst a0
   have HE := hide (show repP ((0 : Nat) : Int) (-1) = ⟨#[42]⟩ from rfl)
   go_enter Tryz.func61, Tryz.ntmps61
   go_wp2_with fail
   go_ret
   exact ⟨by rw [HE.out]; rfl, Below.refl _ _⟩
  by_cases a1 : a = 1
  ·subst a1
   have HE := hide (show repP ((1 : Nat) : Int) (-1) = ⟨#[43]⟩ from rfl)
   go_enter Tryz.func61, Tryz.ntmps61
   go_wp2_with fail
   go_ret
   exact ⟨by rw [HE.out]; rfl, Below.refl _ _⟩
  have HE := hide (show repP (a : Int) (-1) = byS 123 ++ decP a ++ ⟨#[44, 125]⟩ from by unfold repP; rw [if_pos rfl, if_neg (by omega), if_neg (by omega), Int.toNat_natCast])
  have z0 : ((a : Int) == 0) = false := by rw [beq_eq_false_iff_ne]; omega
  have z1 : ((a : Int) == 1) = false := by rw [beq_eq_false_iff_ne]; omega
  have z0' : ¬ (a : Int) = 0 := by omega
  have z1' : ¬ (a : Int) = 1 := by omega
  have z2 : ((a : Int) == -1) = false := by rw [beq_eq_false_iff_ne]; omega
  have z2' : ¬ (a : Int) = -1 := by omega
  obtain ⟨da, hde⟩ : ∃ d, d = decP a := ⟨_, rfl⟩
  go_enter Tryz.func61, Tryz.ntmps61
  go_wp2_with fail
  refine (HT.out a (by omega) w (Below.refl _ _)).mono ?_
  rintro e w1 ⟨rfl, hb1⟩
  have HB := hide hb1
  clear hb1
  go_wp2_with fail
  go_ret
  exact ⟨by rw [HE.out]; rfl, HB.out⟩
 ·have hdn := decP_size n
  have y2 : ((n : Int) == -1) = false := by rw [beq_eq_false_iff_ne]; omega
  have y2' : ¬ (n : Int) = -1 := by omega
  by_cases q : a = 0 ∧ n = 1
  ·obtain ⟨rfl, rfl⟩ := q
   have HE := hide (show repP ((0 : Nat) : Int) ((1 : Nat) : Int) = ⟨#[63]⟩ from rfl)
   go_enter Tryz.func61, Tryz.ntmps61
   go_wp2_with fail
   go_ret
   exact ⟨by rw [HE.out]; rfl, Below.refl _ _⟩
  by_cases e : a = n
  ·subst e
   have HE := hide (show repP (a : Int) (a : Int) = byS 123 ++ decP a ++ byS 125 from by unfold repP; rw [if_neg (by omega), if_neg (by omega), if_pos rfl, Int.toNat_natCast])
   have z3 : ((a : Int) == (a : Int)) = true := by simp
   by_cases a0 : a = 0
   ·subst a0
    go_enter Tryz.func61, Tryz.ntmps61
    go_wp2_with fail
    refine (HT.out 0 (by omega) w (Below.refl _ _)).mono ?_
    rintro e w1 ⟨rfl, hb1⟩
    have HB := hide hb1
    clear hb1
    go_wp2_with fail
    go_ret
    exact ⟨by rw [HE.out]; rfl, HB.out⟩
   have z0 : ((a : Int) == 0) = false := by rw [beq_eq_false_iff_ne]; omega
   have z0' : ¬ (a : Int) = 0 := by omega
   by_cases a1 : a = 1
   ·subst a1
    go_enter Tryz.func61, Tryz.ntmps61
    go_wp2_with fail
    refine (HT.out 1 (by omega) w (Below.refl _ _)).mono ?_
    rintro e w1 ⟨rfl, hb1⟩
    have HB := hide hb1
    clear hb1
    go_wp2_with fail
    go_ret
    exact ⟨by rw [HE.out]; rfl, HB.out⟩
   have z1 : ((a : Int) == 1) = false := by rw [beq_eq_false_iff_ne]; omega
   have z1' : ¬ (a : Int) = 1 := by omega
   go_enter Tryz.func61, Tryz.ntmps61
   go_wp2_with fail
   refine (HT.out a (by omega) w (Below.refl _ _)).mono ?_
   rintro e w1 ⟨rfl, hb1⟩
   have HB := hide hb1
   clear hb1
   go_wp2_with fail
   go_ret
   exact ⟨by rw [HE.out]; rfl, HB.out⟩
  have HE := hide (show repP (a : Int) (n : Int) = byS 123 ++ decP a ++ byS 44 ++ decP n ++ byS 125 from by unfold repP; rw [if_neg (by omega), if_neg (by omega), if_neg (by omega), Int.toNat_natCast, Int.toNat_natCast])
  have z3 : ((a : Int) == (n : Int)) = false := by rw [beq_eq_false_iff_ne]; omega
  have z3' : ¬ (a : Int) = (n : Int) := by omega
  by_cases a0 : a = 0
  ·subst a0
   have y1 : ((n : Int) == 1) = false := by rw [beq_eq_false_iff_ne]; omega
   have y1' : ¬ (n : Int) = 1 := by omega
   go_enter Tryz.func61, Tryz.ntmps61
   go_wp2_with fail
   refine (HT.out 0 (by omega) w (Below.refl _ _)).mono ?_
   rintro e w1 ⟨rfl, hb1⟩
   have HB := hide hb1
   clear hb1
   go_wp2_with fail
   refine (HT.out n (by omega) w1 HB.out).mono ?_
   rintro e w2 ⟨rfl, hb2⟩
   have HC := hide (HB.out.trans (hb2.mono HB.out.size))
   clear hb2
   go_wp2_with fail
   go_ret
   exact ⟨by rw [HE.out]; rfl, HC.out⟩
  have z0 : ((a : Int) == 0) = false := by rw [beq_eq_false_iff_ne]; omega
  have z0' : ¬ (a : Int) = 0 := by omega
  by_cases a1 : a = 1
  ·subst a1
   go_enter Tryz.func61, Tryz.ntmps61
   go_wp2_with fail
   refine (HT.out 1 (by omega) w (Below.refl _ _)).mono ?_
   rintro e w1 ⟨rfl, hb1⟩
   have HB := hide hb1
   clear hb1
   go_wp2_with fail
   refine (HT.out n (by omega) w1 HB.out).mono ?_
   rintro e w2 ⟨rfl, hb2⟩
   have HC := hide (HB.out.trans (hb2.mono HB.out.size))
   clear hb2
   go_wp2_with fail
   go_ret
   exact ⟨by rw [HE.out]; rfl, HC.out⟩
  have z1 : ((a : Int) == 1) = false := by rw [beq_eq_false_iff_ne]; omega
  have z1' : ¬ (a : Int) = 1 := by omega
  go_enter Tryz.func61, Tryz.ntmps61
  go_wp2_with fail
  refine (HT.out a (by omega) w (Below.refl _ _)).mono ?_
  rintro e w1 ⟨rfl, hb1⟩
  have HB := hide hb1
  clear hb1
  go_wp2_with fail
  refine (HT.out n (by omega) w1 HB.out).mono ?_
  rintro e w2 ⟨rfl, hb2⟩
  have HC := hide (HB.out.trans (hb2.mono HB.out.size))
  clear hb2
  go_wp2_with fail
  go_ret
  exact ⟨by rw [HE.out]; rfl, HC.out⟩
set_option maxRecDepth 100000 in
set_option maxHeartbeats 1000000 in
theorem refRepeat8_any (a : Nat) (b : Int) (ha : a ≤ 1000) (hb : b = -1 ∨ ∃ n : Nat, n ≤ 1000 ∧ b = (n : Int)) (w : World) : Calls Tryz.prog 66 #[.int .i64 (a : Int), .int .i64 b] w fun e w' => e = .returned (.string (repP (a : Int) b)) ∧ Below w.heap.size w w' := by
 have hda := decP_size a
 rcases hb with rfl | ⟨n, hn, rfl⟩
 ·by_cases a0 : a = 0
  ·subst a0
   have HE := hide (show repP ((0 : Nat) : Int) (-1) = ⟨#[42]⟩ from rfl)
   go_enter Tryz.func66, Tryz.ntmps66
   go_wp2_with fail
   refine (decimal_any 0 (by omega) w).mono ?_
   rintro e w1 ⟨rfl, hb1⟩
   have HB := hide hb1
   clear hb1
   go_wp2_with fail
   go_ret
   exact ⟨by rw [HE.out]; rfl, HB.out⟩
  by_cases a1 : a = 1
  ·subst a1
   have HE := hide (show repP ((1 : Nat) : Int) (-1) = ⟨#[43]⟩ from rfl)
   go_enter Tryz.func66, Tryz.ntmps66
   go_wp2_with fail
   refine (decimal_any 1 (by omega) w).mono ?_
   rintro e w1 ⟨rfl, hb1⟩
   have HB := hide hb1
   clear hb1
   go_wp2_with fail
   go_ret
   exact ⟨by rw [HE.out]; rfl, HB.out⟩
  have HE := hide (show repP (a : Int) (-1) = byS 123 ++ decP a ++ ⟨#[44, 125]⟩ from by unfold repP; rw [if_pos rfl, if_neg (by omega), if_neg (by omega), Int.toNat_natCast])
  have z0 : ((a : Int) == 0) = false := by rw [beq_eq_false_iff_ne]; omega
  have z1 : ((a : Int) == 1) = false := by rw [beq_eq_false_iff_ne]; omega
  have z0' : ¬ (a : Int) = 0 := by omega
  have z1' : ¬ (a : Int) = 1 := by omega
  have z2 : ((a : Int) == -1) = false := by rw [beq_eq_false_iff_ne]; omega
  have z2' : ¬ (a : Int) = -1 := by omega
  obtain ⟨da, hde⟩ : ∃ d, d = decP a := ⟨_, rfl⟩
  go_enter Tryz.func66, Tryz.ntmps66
  go_wp2_with fail
  refine (decimal_any a (by omega) w).mono ?_
  rintro e w1 ⟨rfl, hb1⟩
  have HB := hide hb1
  clear hb1
  go_wp2_with fail
  go_ret
  exact ⟨by rw [HE.out]; rfl, HB.out⟩
 ·have hdn := decP_size n
  have y2 : ((n : Int) == -1) = false := by rw [beq_eq_false_iff_ne]; omega
  have y2' : ¬ (n : Int) = -1 := by omega
  by_cases q : a = 0 ∧ n = 1
  ·obtain ⟨rfl, rfl⟩ := q
   have HE := hide (show repP ((0 : Nat) : Int) ((1 : Nat) : Int) = ⟨#[63]⟩ from rfl)
   go_enter Tryz.func66, Tryz.ntmps66
   go_wp2_with fail
   refine (decimal_any 0 (by omega) w).mono ?_
   rintro e w1 ⟨rfl, hb1⟩
   have HB := hide hb1
   clear hb1
   go_wp2_with fail
   go_ret
   exact ⟨by rw [HE.out]; rfl, HB.out⟩
  by_cases e : a = n
  ·subst e
   have HE := hide (show repP (a : Int) (a : Int) = byS 123 ++ decP a ++ byS 125 from by unfold repP; rw [if_neg (by omega), if_neg (by omega), if_pos rfl, Int.toNat_natCast])
   have z3 : ((a : Int) == (a : Int)) = true := by simp
   by_cases a0 : a = 0
   ·subst a0
    go_enter Tryz.func66, Tryz.ntmps66
    go_wp2_with fail
    refine (decimal_any 0 (by omega) w).mono ?_
    rintro e w1 ⟨rfl, hb1⟩
    have HB := hide hb1
    clear hb1
    go_wp2_with fail
    go_ret
    exact ⟨by rw [HE.out]; rfl, HB.out⟩
   have z0 : ((a : Int) == 0) = false := by rw [beq_eq_false_iff_ne]; omega
   have z0' : ¬ (a : Int) = 0 := by omega
   by_cases a1 : a = 1
   ·subst a1
    go_enter Tryz.func66, Tryz.ntmps66
    go_wp2_with fail
    refine (decimal_any 1 (by omega) w).mono ?_
    rintro e w1 ⟨rfl, hb1⟩
    have HB := hide hb1
    clear hb1
    go_wp2_with fail
    go_ret
    exact ⟨by rw [HE.out]; rfl, HB.out⟩
   have z1 : ((a : Int) == 1) = false := by rw [beq_eq_false_iff_ne]; omega
   have z1' : ¬ (a : Int) = 1 := by omega
   go_enter Tryz.func66, Tryz.ntmps66
   go_wp2_with fail
   refine (decimal_any a (by omega) w).mono ?_
   rintro e w1 ⟨rfl, hb1⟩
   have HB := hide hb1
   clear hb1
   go_wp2_with fail
   go_ret
   exact ⟨by rw [HE.out]; rfl, HB.out⟩
  have HE := hide (show repP (a : Int) (n : Int) = byS 123 ++ decP a ++ byS 44 ++ decP n ++ byS 125 from by unfold repP; rw [if_neg (by omega), if_neg (by omega), if_neg (by omega), Int.toNat_natCast, Int.toNat_natCast])
  have z3 : ((a : Int) == (n : Int)) = false := by rw [beq_eq_false_iff_ne]; omega
  have z3' : ¬ (a : Int) = (n : Int) := by omega
  by_cases a0 : a = 0
  ·subst a0
   have y1 : ((n : Int) == 1) = false := by rw [beq_eq_false_iff_ne]; omega
   have y1' : ¬ (n : Int) = 1 := by omega
   go_enter Tryz.func66, Tryz.ntmps66
   go_wp2_with fail
   refine (decimal_any 0 (by omega) w).mono ?_
   rintro e w1 ⟨rfl, hb1⟩
   have HB := hide hb1
   clear hb1
   go_wp2_with fail
   refine (decimal_any n (by omega) w1).mono ?_
   rintro e w2 ⟨rfl, hb2⟩
   have HC := hide (HB.out.trans (hb2.mono HB.out.size))
   clear hb2
   go_wp2_with fail
   go_ret
   exact ⟨by rw [HE.out]; rfl, HC.out⟩
  have z0 : ((a : Int) == 0) = false := by rw [beq_eq_false_iff_ne]; omega
  have z0' : ¬ (a : Int) = 0 := by omega
  by_cases a1 : a = 1
  ·subst a1
   go_enter Tryz.func66, Tryz.ntmps66
   go_wp2_with fail
   refine (decimal_any 1 (by omega) w).mono ?_
   rintro e w1 ⟨rfl, hb1⟩
   have HB := hide hb1
   clear hb1
   go_wp2_with fail
   refine (decimal_any n (by omega) w1).mono ?_
   rintro e w2 ⟨rfl, hb2⟩
   have HC := hide (HB.out.trans (hb2.mono HB.out.size))
   clear hb2
   go_wp2_with fail
   go_ret
   exact ⟨by rw [HE.out]; rfl, HC.out⟩
  have z1 : ((a : Int) == 1) = false := by rw [beq_eq_false_iff_ne]; omega
  have z1' : ¬ (a : Int) = 1 := by omega
  go_enter Tryz.func66, Tryz.ntmps66
  go_wp2_with fail
  refine (decimal_any a (by omega) w).mono ?_
  rintro e w1 ⟨rfl, hb1⟩
  have HB := hide hb1
  clear hb1
  go_wp2_with fail
  refine (decimal_any n (by omega) w1).mono ?_
  rintro e w2 ⟨rfl, hb2⟩
  have HC := hide (HB.out.trans (hb2.mono HB.out.size))
  clear hb2
  go_wp2_with fail
  go_ret
  exact ⟨by rw [HE.out]; rfl, HC.out⟩
end Go.Proofs.YtpkcklpjbeginaaGreatDoor
