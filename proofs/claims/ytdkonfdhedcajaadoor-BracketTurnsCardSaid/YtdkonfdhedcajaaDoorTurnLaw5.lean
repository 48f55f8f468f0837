/- The law BracketTurns, walked. (Printed by gen_turn5.py.) -/
import Derived.Test.YtdkonfdhedcajaaDoorTurnP5
import Derived.Test.YtdkonfdhedcajaaDoorReadsLaw5
import Derived.Laws.Strings
set_option linter.unusedSimpArgs false
set_option linter.unusedVariables false
namespace Go.Proofs.YtdkonfdhedcajaaDoor
open Go.RowKit

/-- What one of the four readings answers. -/
def Rd5 (p : ByteArray) (fl : Int) (r : R5) (a : Nat → Addr) (m : Int) : Prop := ∀ y : World, B5 y a m → Calls Tryd.prog 12 #[.string p, .int .i64 0, .int .i64 fl] y (R5.Is r a y)
theorem rd5_of (p : ByteArray) (fl : Int) (hs : p.size < 4294967281) (h91 : pb p 0 = 91) (ic nl : Bool) (h2 : (!decide (bits .and .i64 fl 2 = 0)) = ic) (h4 : (!decide (bits .and .i64 fl 4 = 0)) = nl) (a : Nat → Addr) (m : Int) : Rd5 p fl (readP p 0 ic nl) a m := fun y hB => by
  have h := read5_any p 0 fl hs a m y hB
  unfold ReadIs at h
  refine h.mono fun e w' hres => ?_
  rw [if_pos ⟨by decide, h91⟩, h2, h4] at hres
  exact hres
theorem fold_in (S : Nat → Bool) (ic : Bool) (x : Nat) (h : S x = true) : (if ic then fold5 S else S) x = true := by
  cases ic
  · exact h
  · show fold5 S x = true
    unfold fold5
    rw [h]; rfl
set_option maxRecDepth 100000 in
set_option maxHeartbeats 4000000 in
theorem turns5_main (items : ByteArray) (fl : Int) (a : Nat → Addr) (m : Int) (w : World) (hB : B5 w a m) (hT : ErrT w) (hs : items.size ≤ 5000) (hn : ¬ items = ⟨#[]⟩) (h0 : 0 < items.size) (h94 : ¬ (items[0]'h0).toNat = 94) : Calls Tryd.prog 4 #[.string items, .int .i64 fl] w fun e w' => e = .returned (.bool true) ∧ Below w.heap.size w w' := by
  have HLV := hide (lives5_any a m w hB hT)
  have HE := hide (And.intro hB hT)
  clear hB hT
  have hsh := shift_of items
  have hp91 : pb ⟨#[91] ++ items.data ++ #[93]⟩ 0 = 91 := by rw [pb_list]; simp
  have hq91 : pb ⟨#[91, 94] ++ items.data ++ #[93]⟩ 0 = 91 := by rw [pb_list]; simp
  have hq94 : pb ⟨#[91, 94] ++ items.data ++ #[93]⟩ 1 = 94 := by rw [pb_list]; simp
  have hp94 : pb ⟨#[91] ++ items.data ++ #[93]⟩ 1 ≠ 94 := by
    rw [pb_list]
    have h1 : 0 < items.data.toList.length := by simpa using h0
    have h2 : (#[91] ++ items.data ++ #[93]).toList[1]? = some (items[0]'h0) := by
      simp only [Array.toList_append, List.append_assoc, List.cons_append, List.nil_append, List.getElem?_cons_succ]
      rw [List.getElem?_append_left h1, List.getElem?_eq_getElem h1]
      rfl
    rw [h2]
    exact h94
  have hps : (⟨#[91] ++ items.data ++ #[93]⟩ : ByteArray).size ≤ 5002 := by
    show (#[91] ++ items.data ++ #[93]).size ≤ 5002
    have : items.data.size = items.size := rfl
    simp only [Array.size_append, List.size_toArray, List.length_cons, List.length_nil]
    omega
  have hqs : (⟨#[91, 94] ++ items.data ++ #[93]⟩ : ByteArray).size ≤ 5003 := by have := hsh.size; omega
  obtain ⟨ic, f1, f2, f3, f4, f5, f6⟩ := flagsT fl
  obtain ⟨L, L2, hL, hRp, hRq⟩ := read_sh hsh hp94 hq94
  have hN : (⟨#[91] ++ items.data ++ #[93]⟩ : ByteArray).size ≤ 5002 := hps
  have hcode : ∀ g y, L = .bad g y → g < 21 := fun g y e => readP_code (by rw [hRp ic false, e]; rfl)
  have HR1 := hide (rd5_of _ _ (by omega) hp91 ic false f1 f2 a m)
  have HR2 := hide (rd5_of _ _ (by omega) hq91 ic false f1 f2 a m)
  have HR3 := hide (rd5_of _ _ (by omega) hq91 ic true f3 f4 a m)
  have HR4 := hide (rd5_of _ _ (by omega) hq91 ic false f5 f6 a m)
  have HR5 := hide (rd5_of ⟨#[91] ++ items.data ++ #[93]⟩ 0 (by omega) hp91 false false rfl rfl a m)
  rw [hRp] at HR1 HR5
  rw [hRq] at HR2 HR3 HR4
  have ep : (⟨#[91]⟩ ++ items ++ ⟨#[93]⟩ : ByteArray) = ⟨#[91] ++ items.data ++ #[93]⟩ := by apply ByteArray.ext; simp
  have eq : (⟨#[91, 94]⟩ ++ items ++ ⟨#[93]⟩ : ByteArray) = ⟨#[91, 94] ++ items.data ++ #[93]⟩ := by apply ByteArray.ext; simp
  rw [← ep] at HR1 HR5
  rw [← eq] at HR2 HR3 HR4
  clear f1 f2 f3 f4 f5 f6 hRp hRq hsh hp91 hq91 hq94 hp94 hqs ep eq
  generalize (⟨#[91] ++ items.data ++ #[93]⟩ : ByteArray).size = N at *
  have hg : decide (5000 < (items.size : Int)) = false := decide_eq_false (by omega)
  have hi0 : (0 : Int) < (items.size : Int) := by omega
  have hx : (((items[0]'h0).toNat : Int) == 94) = false := by rw [beq_eq_false_iff_ne]; omega
  have hem : items.toList.isEmpty = false := by
    rw [ByteArray.toList_eq]
    cases hl : items.data.toList with
    | nil =>
      have h3 : items.data.toList.length = items.size := by simp
      rw [hl, List.length_nil] at h3
      omega
    | cons _ _ => rfl
  go_enter Tryd.func4, Tryd.ntmps4
  go_wp2_with fail
  refine HLV.out.mono ?_
  rintro e w1 ⟨rfl, hb1⟩
  have HW := hide (And.intro hb1 (And.intro (HE.out.1.below hb1) (HE.out.2.below hb1)))
  clear hb1 HE HLV
  go_wp2_with fail
  generalize (⟨#[91]⟩ ++ items ++ ⟨#[93]⟩ : ByteArray) = pS at *
  generalize (⟨#[91, 94]⟩ ++ items ++ ⟨#[93]⟩ : ByteArray) = qS at *
  cases L with
  | bad g y =>
    cases L2 with
    | good S2 j2 => exact hL.elim
    | bad h y2 =>
      obtain ⟨rfl, hy, hy0, hyN⟩ := hL
      have hg21 : h < 21 := hcode h y rfl
      clear hcode
      unfold outP at HR1 HR2 HR3 HR4 HR5
      simp only [] at HR1 HR2 HR3 HR4 HR5
      go_wp2_with fail
      refine (HR1.out w1 HW.out.2.1).mono ?_
      intro e w2 hres
      obtain ⟨gf7, rfl, hgf, hbf, hb⟩ := hres
      have hgl := hbf.lt
      rw [setV_none]
      have hal := (Below.refl w2.heap.size w2).alloc (Nat.le_refl _) (.cells #[.int .u64 0, .int .u64 0, .int .u64 0, .int .u64 0] 25)
      have hzb := Blk.new w2 25 #[.int .u64 0, .int .u64 0, .int .u64 0, .int .u64 0]
      have hz := hb.size
      go_wp2_with (refine wpList_store_row rfl _ _ _ rfl w2.heap.size 0 _ _ _ rfl rfl hzb Tryd.sizeSetO (by simp) (by simp [Value.oneCell']) ?_)
      intro w3 hrow2 hg9 hz9
      have hrow := hrow2.out
      rw [splice_full (by rfl)] at hrow
      have hbE : Below w2.heap.size w2 w3 := below_grew hal hg9 (Nat.le_refl _) (fun q hq => by rw [← Option.some.inj hq]; exact Nat.le_refl _)
      have hb3 := hb.trans (hbE.mono hb.size)
      replace HW := hide (And.intro (HW.out.1.trans (hb3.mono HW.out.1.size)) (And.intro (HW.out.2.1.below hb3) (HW.out.2.2.below hb3)))
      have HF7 := hide (hbf.below hbE hgl)
      clear hrow hrow2 hg9 hz9 hal hzb hbE hb3 hb hz hbf hgl hgf
      generalize w2.heap.size = g7 at *
      have hevf7 : faultV gf7 = .iface 63 (.pointer (some ⟨gf7, 0, none⟩)) := rfl
      go_wp2_with fail
      refine (HR2.out w3 HW.out.2.1).mono ?_
      intro e w4 hres
      obtain ⟨gf10, rfl, hgf, hbf, hb⟩ := hres
      have hgl := hbf.lt
      rw [setV_none]
      have hal := (Below.refl w4.heap.size w4).alloc (Nat.le_refl _) (.cells #[.int .u64 0, .int .u64 0, .int .u64 0, .int .u64 0] 25)
      have hzb := Blk.new w4 25 #[.int .u64 0, .int .u64 0, .int .u64 0, .int .u64 0]
      have hz := hb.size
      go_wp2_with (refine wpList_store_row rfl _ _ _ rfl w4.heap.size 0 _ _ _ rfl rfl hzb Tryd.sizeSetO (by simp) (by simp [Value.oneCell']) ?_)
      intro w5 hrow2 hg9 hz9
      have hrow := hrow2.out
      rw [splice_full (by rfl)] at hrow
      have hbE : Below w4.heap.size w4 w5 := below_grew hal hg9 (Nat.le_refl _) (fun q hq => by rw [← Option.some.inj hq]; exact Nat.le_refl _)
      have hb3 := hb.trans (hbE.mono hb.size)
      replace HW := hide (And.intro (HW.out.1.trans (hb3.mono HW.out.1.size)) (And.intro (HW.out.2.1.below hb3) (HW.out.2.2.below hb3)))
      replace HF7 := hide (HF7.out.below hb3 HF7.out.lt)
      have HF10 := hide (hbf.below hbE hgl)
      clear hrow hrow2 hg9 hz9 hal hzb hbE hb3 hb hz hbf hgl hgf
      generalize w4.heap.size = g10 at *
      have hevf10 : faultV gf10 = .iface 63 (.pointer (some ⟨gf10, 0, none⟩)) := rfl
      go_wp2_with fail
      refine (HR3.out w5 HW.out.2.1).mono ?_
      intro e w6 hres
      obtain ⟨gf13, rfl, hgf, hbf, hb⟩ := hres
      have hgl := hbf.lt
      rw [setV_none]
      have hal := (Below.refl w6.heap.size w6).alloc (Nat.le_refl _) (.cells #[.int .u64 0, .int .u64 0, .int .u64 0, .int .u64 0] 25)
      have hzb := Blk.new w6 25 #[.int .u64 0, .int .u64 0, .int .u64 0, .int .u64 0]
      have hz := hb.size
      go_wp2_with (refine wpList_store_row rfl _ _ _ rfl w6.heap.size 0 _ _ _ rfl rfl hzb Tryd.sizeSetO (by simp) (by simp [Value.oneCell']) ?_)
      intro w7 hrow2 hg9 hz9
      have hrow := hrow2.out
      rw [splice_full (by rfl)] at hrow
      have hbE : Below w6.heap.size w6 w7 := below_grew hal hg9 (Nat.le_refl _) (fun q hq => by rw [← Option.some.inj hq]; exact Nat.le_refl _)
      have hb3 := hb.trans (hbE.mono hb.size)
      replace HW := hide (And.intro (HW.out.1.trans (hb3.mono HW.out.1.size)) (And.intro (HW.out.2.1.below hb3) (HW.out.2.2.below hb3)))
      replace HF7 := hide (HF7.out.below hb3 HF7.out.lt)
      replace HF10 := hide (HF10.out.below hb3 HF10.out.lt)
      have HF13 := hide (hbf.below hbE hgl)
      clear hrow hrow2 hg9 hz9 hal hzb hbE hb3 hb hz hbf hgl hgf
      generalize w6.heap.size = g13 at *
      have hevf13 : faultV gf13 = .iface 63 (.pointer (some ⟨gf13, 0, none⟩)) := rfl
      go_wp2_with fail
      refine (HR4.out w7 HW.out.2.1).mono ?_
      intro e w8 hres
      obtain ⟨gf16, rfl, hgf, hbf, hb⟩ := hres
      have hgl := hbf.lt
      rw [setV_none]
      have hal := (Below.refl w8.heap.size w8).alloc (Nat.le_refl _) (.cells #[.int .u64 0, .int .u64 0, .int .u64 0, .int .u64 0] 25)
      have hzb := Blk.new w8 25 #[.int .u64 0, .int .u64 0, .int .u64 0, .int .u64 0]
      have hz := hb.size
      go_wp2_with (refine wpList_store_row rfl _ _ _ rfl w8.heap.size 0 _ _ _ rfl rfl hzb Tryd.sizeSetO (by simp) (by simp [Value.oneCell']) ?_)
      intro w9 hrow2 hg9 hz9
      have hrow := hrow2.out
      rw [splice_full (by rfl)] at hrow
      have hbE : Below w8.heap.size w8 w9 := below_grew hal hg9 (Nat.le_refl _) (fun q hq => by rw [← Option.some.inj hq]; exact Nat.le_refl _)
      have hb3 := hb.trans (hbE.mono hb.size)
      replace HW := hide (And.intro (HW.out.1.trans (hb3.mono HW.out.1.size)) (And.intro (HW.out.2.1.below hb3) (HW.out.2.2.below hb3)))
      replace HF7 := hide (HF7.out.below hb3 HF7.out.lt)
      replace HF10 := hide (HF10.out.below hb3 HF10.out.lt)
      replace HF13 := hide (HF13.out.below hb3 HF13.out.lt)
      have HF16 := hide (hbf.below hbE hgl)
      clear hrow hrow2 hg9 hz9 hal hzb hbE hb3 hb hz hbf hgl hgf
      generalize w8.heap.size = g16 at *
      have hevf16 : faultV gf16 = .iface 63 (.pointer (some ⟨gf16, 0, none⟩)) := rfl
      clear HR1 HR2 HR3 HR4 HR5
      unfold faultV
      have hnn := fun W => run_eql_iface_nil (P := Tryd.prog) (w := W) 27 (by kernel_rfl) 63 (.pointer (some ⟨gf7, 0, none⟩))
      go_wp2_with fail
      refine (num_fault w9 a gf7 y h hg21 HW.out.2.1.errs HF7.out).mono ?_
      rintro e wn1 ⟨rfl, hb3⟩
      replace HW := hide (And.intro (HW.out.1.trans (hb3.mono HW.out.1.size)) (And.intro (HW.out.2.1.below hb3) (HW.out.2.2.below hb3)))
      replace HF7 := hide (HF7.out.below hb3 HF7.out.lt)
      replace HF10 := hide (HF10.out.below hb3 HF10.out.lt)
      replace HF13 := hide (HF13.out.below hb3 HF13.out.lt)
      replace HF16 := hide (HF16.out.below hb3 HF16.out.lt)
      clear hb3
      go_wp2_with fail
      refine (num_fault wn1 a gf10 y2 h hg21 HW.out.2.1.errs HF10.out).mono ?_
      rintro e wn2 ⟨rfl, hb3⟩
      replace HW := hide (And.intro (HW.out.1.trans (hb3.mono HW.out.1.size)) (And.intro (HW.out.2.1.below hb3) (HW.out.2.2.below hb3)))
      replace HF7 := hide (HF7.out.below hb3 HF7.out.lt)
      replace HF10 := hide (HF10.out.below hb3 HF10.out.lt)
      replace HF13 := hide (HF13.out.below hb3 HF13.out.lt)
      replace HF16 := hide (HF16.out.below hb3 HF16.out.lt)
      clear hb3
      go_wp2_with fail
      refine (num_fault wn2 a gf13 y2 h hg21 HW.out.2.1.errs HF13.out).mono ?_
      rintro e wn3 ⟨rfl, hb3⟩
      replace HW := hide (And.intro (HW.out.1.trans (hb3.mono HW.out.1.size)) (And.intro (HW.out.2.1.below hb3) (HW.out.2.2.below hb3)))
      replace HF7 := hide (HF7.out.below hb3 HF7.out.lt)
      replace HF10 := hide (HF10.out.below hb3 HF10.out.lt)
      replace HF13 := hide (HF13.out.below hb3 HF13.out.lt)
      replace HF16 := hide (HF16.out.below hb3 HF16.out.lt)
      clear hb3
      go_wp2_with fail
      refine (num_fault wn3 a gf10 y2 h hg21 HW.out.2.1.errs HF10.out).mono ?_
      rintro e wn4 ⟨rfl, hb3⟩
      replace HW := hide (And.intro (HW.out.1.trans (hb3.mono HW.out.1.size)) (And.intro (HW.out.2.1.below hb3) (HW.out.2.2.below hb3)))
      replace HF7 := hide (HF7.out.below hb3 HF7.out.lt)
      replace HF10 := hide (HF10.out.below hb3 HF10.out.lt)
      replace HF13 := hide (HF13.out.below hb3 HF13.out.lt)
      replace HF16 := hide (HF16.out.below hb3 HF16.out.lt)
      clear hb3
      go_wp2_with fail
      refine (num_fault wn4 a gf16 y2 h hg21 HW.out.2.1.errs HF16.out).mono ?_
      rintro e wn5 ⟨rfl, hb3⟩
      replace HW := hide (And.intro (HW.out.1.trans (hb3.mono HW.out.1.size)) (And.intro (HW.out.2.1.below hb3) (HW.out.2.2.below hb3)))
      replace HF7 := hide (HF7.out.below hb3 HF7.out.lt)
      replace HF10 := hide (HF10.out.below hb3 HF10.out.lt)
      replace HF13 := hide (HF13.out.below hb3 HF13.out.lt)
      replace HF16 := hide (HF16.out.below hb3 HF16.out.lt)
      clear hb3
      go_wp2_with fail
      refine (num_fault wn5 a gf10 y2 h hg21 HW.out.2.1.errs HF10.out).mono ?_
      rintro e wA ⟨rfl, hb3⟩
      replace HW := hide (And.intro (HW.out.1.trans (hb3.mono HW.out.1.size)) (And.intro (HW.out.2.1.below hb3) (HW.out.2.2.below hb3)))
      replace HF7 := hide (HF7.out.below hb3 HF7.out.lt)
      replace HF10 := hide (HF10.out.below hb3 HF10.out.lt)
      replace HF13 := hide (HF13.out.below hb3 HF13.out.lt)
      replace HF16 := hide (HF16.out.below hb3 HF16.out.lt)
      clear hb3
      go_wp2_with fail
      refine (place_fault gf10 _ (a (sentVar h)) wA HW.out.2.2 HF10.out).mono ?_
      rintro e wp1 ⟨rfl, hb3⟩
      replace HW := hide (And.intro (HW.out.1.trans (hb3.mono HW.out.1.size)) (And.intro (HW.out.2.1.below hb3) (HW.out.2.2.below hb3)))
      replace HF7 := hide (HF7.out.below hb3 HF7.out.lt)
      replace HF10 := hide (HF10.out.below hb3 HF10.out.lt)
      replace HF13 := hide (HF13.out.below hb3 HF13.out.lt)
      replace HF16 := hide (HF16.out.below hb3 HF16.out.lt)
      clear hb3
      go_wp2_with fail
      refine (place_fault gf7 _ (a (sentVar h)) wp1 HW.out.2.2 HF7.out).mono ?_
      rintro e wp2 ⟨rfl, hb3⟩
      replace HW := hide (And.intro (HW.out.1.trans (hb3.mono HW.out.1.size)) (And.intro (HW.out.2.1.below hb3) (HW.out.2.2.below hb3)))
      replace HF7 := hide (HF7.out.below hb3 HF7.out.lt)
      replace HF10 := hide (HF10.out.below hb3 HF10.out.lt)
      replace HF13 := hide (HF13.out.below hb3 HF13.out.lt)
      replace HF16 := hide (HF16.out.below hb3 HF16.out.lt)
      clear hb3
      rcases hy with rfl | rfl
      · have hqq : (y2 == y2) = true := by simp
        go_wp2_with fail
        go_ret
        exact ⟨rfl, HW.out.1⟩
      · have hqq : (y + 1 == y) = false := by rw [beq_eq_false_iff_ne]; omega
        have hqd : decide (y + 1 = y) = false := decide_eq_false (by omega)
        have hqe : (y + 1 == y + 1) = true := by simp
        have hqw : IntKind.i64.wrap (y + 1) = y + 1 := by simp [IntKind.wrap, IntKind.bits, IntKind.signed]; omega
        go_wp2_with fail
        refine (place_fault gf10 _ (a (sentVar h)) wp2 HW.out.2.2 HF10.out).mono ?_
        rintro e wp3 ⟨rfl, hb3⟩
        replace HW := hide (And.intro (HW.out.1.trans (hb3.mono HW.out.1.size)) (And.intro (HW.out.2.1.below hb3) (HW.out.2.2.below hb3)))
        replace HF7 := hide (HF7.out.below hb3 HF7.out.lt)
        replace HF10 := hide (HF10.out.below hb3 HF10.out.lt)
        replace HF13 := hide (HF13.out.below hb3 HF13.out.lt)
        replace HF16 := hide (HF16.out.below hb3 HF16.out.lt)
        clear hb3
        go_wp2_with fail
        refine (place_fault gf7 _ (a (sentVar h)) wp3 HW.out.2.2 HF7.out).mono ?_
        rintro e wp4 ⟨rfl, hb3⟩
        replace HW := hide (And.intro (HW.out.1.trans (hb3.mono HW.out.1.size)) (And.intro (HW.out.2.1.below hb3) (HW.out.2.2.below hb3)))
        replace HF7 := hide (HF7.out.below hb3 HF7.out.lt)
        replace HF10 := hide (HF10.out.below hb3 HF10.out.lt)
        replace HF13 := hide (HF13.out.below hb3 HF13.out.lt)
        replace HF16 := hide (HF16.out.below hb3 HF16.out.lt)
        clear hb3
        go_wp2_with fail
        go_ret
        exact ⟨rfl, HW.out.1⟩
  | good S j =>
    cases L2 with
    | bad h y2 => exact hL.elim
    | good S2 j2 =>
      obtain ⟨rfl, rfl, hjN⟩ := hL
      obtain ⟨X1, hX1⟩ : ∃ X, X = finP false ic false S2 := ⟨_, rfl⟩
      obtain ⟨X2, hX2⟩ : ∃ X, X = finP true ic false S2 := ⟨_, rfl⟩
      obtain ⟨X3, hX3⟩ : ∃ X, X = finP true ic true S2 := ⟨_, rfl⟩
      have hX4 : finP false false false S2 = S2 := rfl
      unfold outP at HR1 HR2 HR3 HR4 HR5
      simp only [← hX1, ← hX2, ← hX3, hX4] at HR1 HR2 HR3 HR4 HR5
      have h12 : X2 = fun x => !X1 x := by subst hX1 hX2; rfl
      have h13 : X3 = fun x => X2 x && !decide (x = 10) := by subst hX2 hX3; rfl
      have hin : ∀ x, S2 x = true → X1 x = true := fun x h => by subst hX1; exact fold_in S2 ic x h
      have hwj : IntKind.i64.wrap ((j : Int) + 1 + 1) = (j : Int) + 1 + 1 := by simp [IntKind.wrap, IntKind.bits, IntKind.signed]; omega
      have HX := hide (And.intro h12 (And.intro h13 hin))
      clear hX1 hX2 hX3 hX4 h12 h13 hin
      go_wp2_with fail
      refine (HR1.out w1 HW.out.2.1).mono ?_
      intro e w2 hres
      obtain ⟨rfl, hb⟩ := hres
      unfold setV setC
      have hal := (Below.refl w2.heap.size w2).alloc (Nat.le_refl _) (.cells #[.int .u64 0, .int .u64 0, .int .u64 0, .int .u64 0] 25)
      have hzb := Blk.new w2 25 #[.int .u64 0, .int .u64 0, .int .u64 0, .int .u64 0]
      have hz := hb.size
      go_wp2_with (refine wpList_store_row rfl _ _ _ rfl w2.heap.size 0 _ _ _ rfl rfl hzb Tryd.sizeSetO (by simp) (by simp [Value.oneCell']) ?_)
      intro w3 hrow2 hg9 hz9
      have hrow := hrow2.out
      rw [splice_full (by rfl)] at hrow
      have hbE : Below w2.heap.size w2 w3 := below_grew hal hg9 (Nat.le_refl _) (fun q hq => by rw [← Option.some.inj hq]; exact Nat.le_refl _)
      have hb3 := hb.trans (hbE.mono hb.size)
      replace HW := hide (And.intro (HW.out.1.trans (hb3.mono HW.out.1.size)) (And.intro (HW.out.2.1.below hb3) (HW.out.2.2.below hb3)))
      have HB7 := hide (show Blk w3 w2.heap.size 25 (setC X1).toArray from hrow)
      clear hrow hrow2 hg9 hz9 hal hzb hbE hb3 hb hz
      generalize w2.heap.size = g7 at *
      go_wp2_with fail
      refine (HR2.out w3 HW.out.2.1).mono ?_
      intro e w4 hres
      obtain ⟨rfl, hb⟩ := hres
      unfold setV setC
      have hal := (Below.refl w4.heap.size w4).alloc (Nat.le_refl _) (.cells #[.int .u64 0, .int .u64 0, .int .u64 0, .int .u64 0] 25)
      have hzb := Blk.new w4 25 #[.int .u64 0, .int .u64 0, .int .u64 0, .int .u64 0]
      have hz := hb.size
      go_wp2_with (refine wpList_store_row rfl _ _ _ rfl w4.heap.size 0 _ _ _ rfl rfl hzb Tryd.sizeSetO (by simp) (by simp [Value.oneCell']) ?_)
      intro w5 hrow2 hg9 hz9
      have hrow := hrow2.out
      rw [splice_full (by rfl)] at hrow
      have hbE : Below w4.heap.size w4 w5 := below_grew hal hg9 (Nat.le_refl _) (fun q hq => by rw [← Option.some.inj hq]; exact Nat.le_refl _)
      have hb3 := hb.trans (hbE.mono hb.size)
      replace HW := hide (And.intro (HW.out.1.trans (hb3.mono HW.out.1.size)) (And.intro (HW.out.2.1.below hb3) (HW.out.2.2.below hb3)))
      replace HB7 := hide (HB7.out.below hb3 HB7.out.lt)
      have HB10 := hide (show Blk w5 w4.heap.size 25 (setC X2).toArray from hrow)
      clear hrow hrow2 hg9 hz9 hal hzb hbE hb3 hb hz
      generalize w4.heap.size = g10 at *
      go_wp2_with fail
      refine (HR3.out w5 HW.out.2.1).mono ?_
      intro e w6 hres
      obtain ⟨rfl, hb⟩ := hres
      unfold setV setC
      have hal := (Below.refl w6.heap.size w6).alloc (Nat.le_refl _) (.cells #[.int .u64 0, .int .u64 0, .int .u64 0, .int .u64 0] 25)
      have hzb := Blk.new w6 25 #[.int .u64 0, .int .u64 0, .int .u64 0, .int .u64 0]
      have hz := hb.size
      go_wp2_with (refine wpList_store_row rfl _ _ _ rfl w6.heap.size 0 _ _ _ rfl rfl hzb Tryd.sizeSetO (by simp) (by simp [Value.oneCell']) ?_)
      intro w7 hrow2 hg9 hz9
      have hrow := hrow2.out
      rw [splice_full (by rfl)] at hrow
      have hbE : Below w6.heap.size w6 w7 := below_grew hal hg9 (Nat.le_refl _) (fun q hq => by rw [← Option.some.inj hq]; exact Nat.le_refl _)
      have hb3 := hb.trans (hbE.mono hb.size)
      replace HW := hide (And.intro (HW.out.1.trans (hb3.mono HW.out.1.size)) (And.intro (HW.out.2.1.below hb3) (HW.out.2.2.below hb3)))
      replace HB7 := hide (HB7.out.below hb3 HB7.out.lt)
      replace HB10 := hide (HB10.out.below hb3 HB10.out.lt)
      have HB13 := hide (show Blk w7 w6.heap.size 25 (setC X3).toArray from hrow)
      clear hrow hrow2 hg9 hz9 hal hzb hbE hb3 hb hz
      generalize w6.heap.size = g13 at *
      go_wp2_with fail
      refine (HR4.out w7 HW.out.2.1).mono ?_
      intro e w8 hres
      obtain ⟨rfl, hb⟩ := hres
      unfold setV setC
      have hal := (Below.refl w8.heap.size w8).alloc (Nat.le_refl _) (.cells #[.int .u64 0, .int .u64 0, .int .u64 0, .int .u64 0] 25)
      have hzb := Blk.new w8 25 #[.int .u64 0, .int .u64 0, .int .u64 0, .int .u64 0]
      have hz := hb.size
      go_wp2_with (refine wpList_store_row rfl _ _ _ rfl w8.heap.size 0 _ _ _ rfl rfl hzb Tryd.sizeSetO (by simp) (by simp [Value.oneCell']) ?_)
      intro w9 hrow2 hg9 hz9
      have hrow := hrow2.out
      rw [splice_full (by rfl)] at hrow
      have hbE : Below w8.heap.size w8 w9 := below_grew hal hg9 (Nat.le_refl _) (fun q hq => by rw [← Option.some.inj hq]; exact Nat.le_refl _)
      have hb3 := hb.trans (hbE.mono hb.size)
      replace HW := hide (And.intro (HW.out.1.trans (hb3.mono HW.out.1.size)) (And.intro (HW.out.2.1.below hb3) (HW.out.2.2.below hb3)))
      replace HB7 := hide (HB7.out.below hb3 HB7.out.lt)
      replace HB10 := hide (HB10.out.below hb3 HB10.out.lt)
      replace HB13 := hide (HB13.out.below hb3 HB13.out.lt)
      have HB16 := hide (show Blk w9 w8.heap.size 25 (setC X2).toArray from hrow)
      clear hrow hrow2 hg9 hz9 hal hzb hbE hb3 hb hz
      generalize w8.heap.size = g16 at *
      clear HR1 HR2 HR3 HR4
      have HNM := hide (fun (x : World) => (num_nil x).mono fun e w2 h => (⟨h.1, h.2 ▸ Below.refl _ _⟩ : e = .returned (.int .i64 0) ∧ Below x.heap.size x w2))
      go_wp2_with fail
      refine (HNM.out w9).mono ?_
      rintro e wn1 ⟨rfl, hb3⟩
      replace HW := hide (And.intro (HW.out.1.trans (hb3.mono HW.out.1.size)) (And.intro (HW.out.2.1.below hb3) (HW.out.2.2.below hb3)))
      replace HB7 := hide (HB7.out.below hb3 HB7.out.lt)
      replace HB10 := hide (HB10.out.below hb3 HB10.out.lt)
      replace HB13 := hide (HB13.out.below hb3 HB13.out.lt)
      replace HB16 := hide (HB16.out.below hb3 HB16.out.lt)
      clear hb3
      go_wp2_with fail
      refine (HNM.out wn1).mono ?_
      rintro e wn2 ⟨rfl, hb3⟩
      replace HW := hide (And.intro (HW.out.1.trans (hb3.mono HW.out.1.size)) (And.intro (HW.out.2.1.below hb3) (HW.out.2.2.below hb3)))
      replace HB7 := hide (HB7.out.below hb3 HB7.out.lt)
      replace HB10 := hide (HB10.out.below hb3 HB10.out.lt)
      replace HB13 := hide (HB13.out.below hb3 HB13.out.lt)
      replace HB16 := hide (HB16.out.below hb3 HB16.out.lt)
      clear hb3
      go_wp2_with fail
      refine (HNM.out wn2).mono ?_
      rintro e wn3 ⟨rfl, hb3⟩
      replace HW := hide (And.intro (HW.out.1.trans (hb3.mono HW.out.1.size)) (And.intro (HW.out.2.1.below hb3) (HW.out.2.2.below hb3)))
      replace HB7 := hide (HB7.out.below hb3 HB7.out.lt)
      replace HB10 := hide (HB10.out.below hb3 HB10.out.lt)
      replace HB13 := hide (HB13.out.below hb3 HB13.out.lt)
      replace HB16 := hide (HB16.out.below hb3 HB16.out.lt)
      clear hb3
      go_wp2_with fail
      refine (HNM.out wn3).mono ?_
      rintro e wn4 ⟨rfl, hb3⟩
      replace HW := hide (And.intro (HW.out.1.trans (hb3.mono HW.out.1.size)) (And.intro (HW.out.2.1.below hb3) (HW.out.2.2.below hb3)))
      replace HB7 := hide (HB7.out.below hb3 HB7.out.lt)
      replace HB10 := hide (HB10.out.below hb3 HB10.out.lt)
      replace HB13 := hide (HB13.out.below hb3 HB13.out.lt)
      replace HB16 := hide (HB16.out.below hb3 HB16.out.lt)
      clear hb3
      go_wp2_with fail
      refine (HNM.out wn4).mono ?_
      rintro e wn5 ⟨rfl, hb3⟩
      replace HW := hide (And.intro (HW.out.1.trans (hb3.mono HW.out.1.size)) (And.intro (HW.out.2.1.below hb3) (HW.out.2.2.below hb3)))
      replace HB7 := hide (HB7.out.below hb3 HB7.out.lt)
      replace HB10 := hide (HB10.out.below hb3 HB10.out.lt)
      replace HB13 := hide (HB13.out.below hb3 HB13.out.lt)
      replace HB16 := hide (HB16.out.below hb3 HB16.out.lt)
      clear hb3
      go_wp2_with fail
      refine (HNM.out wn5).mono ?_
      rintro e wA ⟨rfl, hb3⟩
      replace HW := hide (And.intro (HW.out.1.trans (hb3.mono HW.out.1.size)) (And.intro (HW.out.2.1.below hb3) (HW.out.2.2.below hb3)))
      replace HB7 := hide (HB7.out.below hb3 HB7.out.lt)
      replace HB10 := hide (HB10.out.below hb3 HB10.out.lt)
      replace HB13 := hide (HB13.out.below hb3 HB13.out.lt)
      replace HB16 := hide (HB16.out.below hb3 HB16.out.lt)
      clear hb3
      clear HNM
      go_wp2_with fail
      refine (HR5.out wA HW.out.2.1).mono ?_
      intro e wB hres
      obtain ⟨rfl, hb⟩ := hres
      unfold setV setC
      have hal := (Below.refl wB.heap.size wB).alloc (Nat.le_refl _) (.cells #[.int .u64 0, .int .u64 0, .int .u64 0, .int .u64 0] 25)
      have hzb := Blk.new wB 25 #[.int .u64 0, .int .u64 0, .int .u64 0, .int .u64 0]
      have hz := hb.size
      go_wp2_with (refine wpList_store_row rfl _ _ _ rfl wB.heap.size 0 _ _ _ rfl rfl hzb Tryd.sizeSetO (by simp) (by simp [Value.oneCell']) ?_)
      intro wC hrow2 hg9 hz9
      have hrow := hrow2.out
      rw [splice_full (by rfl)] at hrow
      have hbE : Below wB.heap.size wB wC := below_grew hal hg9 (Nat.le_refl _) (fun q hq => by rw [← Option.some.inj hq]; exact Nat.le_refl _)
      have hb3 := hb.trans (hbE.mono hb.size)
      replace HW := hide (And.intro (HW.out.1.trans (hb3.mono HW.out.1.size)) (And.intro (HW.out.2.1.below hb3) (HW.out.2.2.below hb3)))
      replace HB7 := hide (HB7.out.below hb3 HB7.out.lt)
      replace HB10 := hide (HB10.out.below hb3 HB10.out.lt)
      replace HB13 := hide (HB13.out.below hb3 HB13.out.lt)
      replace HB16 := hide (HB16.out.below hb3 HB16.out.lt)
      have HB19 := hide (show Blk wC wB.heap.size 25 (setC S2).toArray from hrow)
      clear hrow hrow2 hg9 hz9 hal hzb hbE hb3 hb hz
      generalize wB.heap.size = g19 at *
      go_upto_region 15 with fail
      have hn1 := fun W => run_neq_set W (wd X2 0) (wd X2 1) (wd X2 2) (wd X2 3) (wd X2 0) (wd X2 1) (wd X2 2) (wd X2 3)
      have hn2 := fun W => run_neq_set W (wd S2 0) (wd S2 1) (wd S2 2) (wd S2 3) (wd S2 0) (wd S2 1) (wd S2 2) (wd S2 3)
      have hn3 := fun W => run_eql_set W (wd X2 0) (wd X2 1) (wd X2 2) (wd X2 3) (wd X2 0) (wd X2 1) (wd X2 2) (wd X2 3)
      have hn4 := fun W => run_eql_set W (wd X3 0) (wd X3 1) (wd X3 2) (wd X3 3) (wd X3 0) (wd X3 1) (wd X3 2) (wd X3 3)
      simp only [beq_self_eq_true, Bool.and_self, Bool.not_true] at hn1 hn2 hn3 hn4
      have HNT := hide (fun W => (show _ from (HX.out.1 ▸ not_any X1 W : Calls Tryd.prog 16 #[setV X1] W (SetIs X2 W))))
      unfold SetIs setV setC at HNT
      refine wp_region_mix (fun z => Blk z g7 25 (setC X1).toArray ∧ Blk z g10 25 (setC X2).toArray ∧ Blk z g19 25 (setC S2).toArray) [] (by kernel_rfl) (fun hcl => ?_)
      have hSb : Below wC.heap.size wC wC.drew := (Below.refl _ _).drew
      have hS : Blk wC.drew g7 25 (setC X1).toArray ∧ Blk wC.drew g10 25 (setC X2).toArray ∧ Blk wC.drew g19 25 (setC S2).toArray := ⟨HB7.out.below hSb HB7.out.lt, HB10.out.below hSb HB10.out.lt, HB19.out.below hSb HB19.out.lt⟩
      refine wpAnyT_free (i := 0) hcl rfl (by kernel_rfl) (v := ?_) (fun _ _ _ h => h) hS (Or.inl ⟨rfl, fun w' _ => ?_⟩) (fun hcl => ?_)
      rotate_left
      · go_simp
        with_reducible rfl
      simp only [List.getElem_toArray, List.getElem_cons_zero, List.getElem_cons_succ, Act.put, List.setIfInBounds_toArray, List.set_cons_zero, List.set_cons_succ]
      refine wpAnyT_free (i := 1) hcl rfl (by kernel_rfl) (v := ?_) (fun _ _ _ h => h) hS (Or.inl ⟨rfl, fun w' _ => ?_⟩) (fun hcl => ?_)
      rotate_left
      · go_simp
        with_reducible rfl
      simp only [List.getElem_toArray, List.getElem_cons_zero, List.getElem_cons_succ, Act.put, List.setIfInBounds_toArray, List.set_cons_zero, List.set_cons_succ]
      refine wpAnyT_free (i := 2) hcl rfl (by kernel_rfl) (v := ?_) (fun _ _ _ h => h) hS (Or.inl ⟨rfl, fun w' _ => ?_⟩) (fun hcl => ?_)
      rotate_left
      · go_simp
        with_reducible rfl
      simp only [List.getElem_toArray, List.getElem_cons_zero, List.getElem_cons_succ, Act.put, List.setIfInBounds_toArray, List.set_cons_zero, List.set_cons_succ]
      refine wpAnyT_free (i := 3) hcl rfl (by kernel_rfl) (v := ?_) (fun _ _ _ h => h) hS (Or.inl ⟨rfl, fun w' _ => ?_⟩) (fun hcl => ?_)
      rotate_left
      · go_simp
        with_reducible rfl
      simp only [List.getElem_toArray, List.getElem_cons_zero, List.getElem_cons_succ, Act.put, List.setIfInBounds_toArray, List.set_cons_zero, List.set_cons_succ]
      refine wpAnyT_free (i := 4) hcl rfl (by kernel_rfl) (v := ?_) (fun _ _ _ h => h) hS (Or.inl ⟨rfl, fun w' _ => ?_⟩) (fun hcl => ?_)
      rotate_left
      · go_simp
        with_reducible rfl
      simp only [List.getElem_toArray, List.getElem_cons_zero, List.getElem_cons_succ, Act.put, List.setIfInBounds_toArray, List.set_cons_zero, List.set_cons_succ]
      refine wpAnyT_free (i := 5) hcl rfl (by kernel_rfl) (v := ?_) (fun _ _ _ h => h) hS (Or.inl ⟨rfl, fun w' _ => ?_⟩) (fun hcl => ?_)
      rotate_left
      · go_simp
        with_reducible rfl
      simp only [List.getElem_toArray, List.getElem_cons_zero, List.getElem_cons_succ, Act.put, List.setIfInBounds_toArray, List.set_cons_zero, List.set_cons_succ]
      refine wpAnyT_free (i := 6) hcl rfl (by kernel_rfl) (v := ?_) (fun _ _ _ h => h) hS (Or.inl ⟨rfl, fun w' _ => ?_⟩) (fun hcl => ?_)
      rotate_left
      · go_simp
        with_reducible rfl
      simp only [List.getElem_toArray, List.getElem_cons_zero, List.getElem_cons_succ, Act.put, List.setIfInBounds_toArray, List.set_cons_zero, List.set_cons_succ]
      refine wpAnyT_free (i := 7) hcl rfl (by kernel_rfl) (v := ?_) (fun _ _ _ h => h) hS (Or.inl ⟨rfl, fun w' _ => ?_⟩) (fun hcl => ?_)
      rotate_left
      · go_simp
        with_reducible rfl
      simp only [List.getElem_toArray, List.getElem_cons_zero, List.getElem_cons_succ, Act.put, List.setIfInBounds_toArray, List.set_cons_zero, List.set_cons_succ]
      refine wpAnyT_free (i := 8) hcl rfl (by kernel_rfl) (v := ?_) (fun _ _ _ h => h) hS (Or.inl ⟨rfl, fun w' _ => ?_⟩) (fun hcl => ?_)
      rotate_left
      · go_simp
        with_reducible rfl
      simp only [List.getElem_toArray, List.getElem_cons_zero, List.getElem_cons_succ, Act.put, List.setIfInBounds_toArray, List.set_cons_zero, List.set_cons_succ]
      refine wpAnyT_take (i := 9) hcl rfl (by kernel_rfl) (v := ?_) (fun _ _ _ h => h) hS (Or.inl ⟨rfl, fun w' hS => ?_⟩) (fun hcl => ?_)
      rotate_left
      · skip
        have cb : ∀ i : Nat, _ = _ := hS.2.1.cell
        simp only [setC] at cb
        go_simp
        with_reducible rfl
      simp only [List.getElem_toArray, List.getElem_cons_zero, List.getElem_cons_succ, Act.put, List.setIfInBounds_toArray, List.set_cons_zero, List.set_cons_succ]
      refine wpAnyT_take (i := 10) hcl rfl (by kernel_rfl) (v := ?_) (fun _ _ _ h => h) hS (Or.inl ⟨rfl, fun w' hS => ?_⟩) (fun hcl => ?_)
      rotate_left
      · skip
        have cb : ∀ i : Nat, _ = _ := hS.1.cell
        simp only [setC] at cb
        go_simp
        with_reducible rfl
      simp only [List.getElem_toArray, List.getElem_cons_zero, List.getElem_cons_succ, Act.put, List.setIfInBounds_toArray, List.set_cons_zero, List.set_cons_succ]
      refine wpAnyT_step (i := 11) hcl rfl (by kernel_rfl) (fun hcl => ?_)
      simp only [List.getElem_toArray, List.getElem_cons_zero, List.getElem_cons_succ, Act.put, List.setIfInBounds_toArray, List.set_cons_zero, List.set_cons_succ]
      go_wp2_with fail
      refine (HNT.out _).mono ?_
      rintro e wD ⟨rfl, hb3⟩
      have hS2 := hS
      clear hS
      have hS : Blk wD g7 25 (setC X1).toArray ∧ Blk wD g10 25 (setC X2).toArray ∧ Blk wD g19 25 (setC S2).toArray := ⟨hS2.1.below hb3 hS2.1.lt, hS2.2.1.below hb3 hS2.2.1.lt, hS2.2.2.below hb3 hS2.2.2.lt⟩
      have hSc := hSb.trans (hb3.mono hSb.size)
      go_wp2_with fail
      refine ⟨hS, ?_⟩
      clear hS2 hb3
      refine wpAnyT_free (i := 12) hcl rfl (by kernel_rfl) (v := ?_) (fun _ _ _ h => h) hS (Or.inl ⟨rfl, fun w' _ => ?_⟩) (fun hcl => ?_)
      rotate_left
      · go_simp
        with_reducible rfl
      simp only [List.getElem_toArray, List.getElem_cons_zero, List.getElem_cons_succ, Act.put, List.setIfInBounds_toArray, List.set_cons_zero, List.set_cons_succ]
      refine wpAnyT_free (i := 13) hcl rfl (by kernel_rfl) (v := ?_) (fun _ _ _ h => h) hS (Or.inl ⟨rfl, fun w' _ => ?_⟩) (fun hcl => ?_)
      rotate_left
      · go_simp
        with_reducible rfl
      simp only [List.getElem_toArray, List.getElem_cons_zero, List.getElem_cons_succ, Act.put, List.setIfInBounds_toArray, List.set_cons_zero, List.set_cons_succ]
      refine wpAnyT_free (i := 14) hcl rfl (by kernel_rfl) (v := ?_) (fun _ _ _ h => h) hS (Or.inl ⟨rfl, fun w' _ => ?_⟩) (fun hcl => ?_)
      rotate_left
      · go_simp
        with_reducible rfl
      simp only [List.getElem_toArray, List.getElem_cons_zero, List.getElem_cons_succ, Act.put, List.setIfInBounds_toArray, List.set_cons_zero, List.set_cons_succ]
      refine wpAnyT_take (i := 15) hcl rfl (by kernel_rfl) (v := ?_) (fun _ _ _ h => h) hS (Or.inl ⟨rfl, fun w' hS => ?_⟩) (fun hcl => ?_)
      rotate_left
      · skip
        have cb : ∀ i : Nat, _ = _ := hS.1.cell
        simp only [setC] at cb
        go_simp
        with_reducible rfl
      simp only [List.getElem_toArray, List.getElem_cons_zero, List.getElem_cons_succ, Act.put, List.setIfInBounds_toArray, List.set_cons_zero, List.set_cons_succ]
      refine wpAnyT_take (i := 16) hcl rfl (by kernel_rfl) (v := ?_) (fun _ _ _ h => h) hS (Or.inl ⟨rfl, fun w' hS => ?_⟩) (fun hcl => ?_)
      rotate_left
      · skip
        have cb : ∀ i : Nat, _ = _ := hS.2.2.cell
        simp only [setC] at cb
        go_simp
        with_reducible rfl
      simp only [List.getElem_toArray, List.getElem_cons_zero, List.getElem_cons_succ, Act.put, List.setIfInBounds_toArray, List.set_cons_zero, List.set_cons_succ]
      refine wpAnyT_take (i := 19) hcl rfl (by kernel_rfl) (v := ?_) (fun _ _ _ h => h) hS (Or.inl ⟨rfl, fun w' hS => ?_⟩) (fun hcl => ?_)
      rotate_left
      · skip
        have cb : ∀ i : Nat, _ = _ := hS.2.2.cell
        simp only [setC] at cb
        go_simp
        with_reducible rfl
      simp only [List.getElem_toArray, List.getElem_cons_zero, List.getElem_cons_succ, Act.put, List.setIfInBounds_toArray, List.set_cons_zero, List.set_cons_succ]
      refine wpAnyT_step (i := 17) hcl rfl (by kernel_rfl) (fun hcl => ?_)
      simp only [List.getElem_toArray, List.getElem_cons_zero, List.getElem_cons_succ, Act.put, List.setIfInBounds_toArray, List.set_cons_zero, List.set_cons_succ]
      go_wp2_with fail
      have hb8 := Blk.new wD 25 #[.int .u64 ((wd X1 0 : Nat) : Int), .int .u64 ((wd X1 1 : Nat) : Int), .int .u64 ((wd X1 2 : Nat) : Int), .int .u64 ((wd X1 3 : Nat) : Int), .int .u64 ((wd S2 0 : Nat) : Int), .int .u64 ((wd S2 1 : Nat) : Int), .int .u64 ((wd S2 2 : Nat) : Int), .int .u64 ((wd S2 3 : Nat) : Int)]
      have hbn := (Below.refl wD.heap.size wD).alloc (Nat.le_refl _) (.cells #[.int .u64 ((wd X1 0 : Nat) : Int), .int .u64 ((wd X1 1 : Nat) : Int), .int .u64 ((wd X1 2 : Nat) : Int), .int .u64 ((wd X1 3 : Nat) : Int), .int .u64 ((wd S2 0 : Nat) : Int), .int .u64 ((wd S2 1 : Nat) : Int), .int .u64 ((wd S2 2 : Nat) : Int), .int .u64 ((wd S2 3 : Nat) : Int)] 25)
      generalize (wD.alloc (.cells #[.int .u64 ((wd X1 0 : Nat) : Int), .int .u64 ((wd X1 1 : Nat) : Int), .int .u64 ((wd X1 2 : Nat) : Int), .int .u64 ((wd X1 3 : Nat) : Int), .int .u64 ((wd S2 0 : Nat) : Int), .int .u64 ((wd S2 1 : Nat) : Int), .int .u64 ((wd S2 2 : Nat) : Int), .int .u64 ((wd S2 3 : Nat) : Int)] 25)) = wE at *
      have hS2 := hS
      clear hS
      have hS : Blk wE g7 25 (setC X1).toArray ∧ Blk wE g10 25 (setC X2).toArray ∧ Blk wE g19 25 (setC S2).toArray := ⟨hS2.1.below hbn hS2.1.lt, hS2.2.1.below hbn hS2.2.1.lt, hS2.2.2.below hbn hS2.2.2.lt⟩
      replace hSc := hSc.trans (hbn.mono hSc.size)
      refine ⟨hS, ?_⟩
      have hmt := meet2_any X1 S2 wD.heap.size wE hb8
      rw [show (fun x => X1 x && S2 x) = S2 from by funext x; cases h : S2 x <;> simp [HX.out.2.2 x, h]] at hmt
      unfold SetIs setV setC at hmt
      clear hS2 hbn hb8
      refine wpAnyT_step (i := 18) hcl rfl (by kernel_rfl) (fun hcl => ?_)
      simp only [List.getElem_toArray, List.getElem_cons_zero, List.getElem_cons_succ, Act.put, List.setIfInBounds_toArray, List.set_cons_zero, List.set_cons_succ]
      go_wp2_with fail
      refine hmt.mono ?_
      rintro e wF ⟨rfl, hb3⟩
      clear hmt
      have hS2 := hS
      clear hS
      have hS : Blk wF g7 25 (setC X1).toArray ∧ Blk wF g10 25 (setC X2).toArray ∧ Blk wF g19 25 (setC S2).toArray := ⟨hS2.1.below hb3 hS2.1.lt, hS2.2.1.below hb3 hS2.2.1.lt, hS2.2.2.below hb3 hS2.2.2.lt⟩
      replace hSc := hSc.trans (hb3.mono hSc.size)
      go_wp2_with fail
      refine ⟨hS, ?_⟩
      clear hS2 hb3
      refine wpAnyT_free (i := 20) hcl rfl (by kernel_rfl) (v := ?_) (fun _ _ _ h => h) hS (Or.inl ⟨rfl, fun w' _ => ?_⟩) (fun hcl => ?_)
      rotate_left
      · go_simp
        with_reducible rfl
      simp only [List.getElem_toArray, List.getElem_cons_zero, List.getElem_cons_succ, Act.put, List.setIfInBounds_toArray, List.set_cons_zero, List.set_cons_succ]
      refine wpAnyT_free (i := 21) hcl rfl (by kernel_rfl) (v := ?_) (fun _ _ _ h => h) hS (Or.inl ⟨rfl, fun w' _ => ?_⟩) (fun hcl => ?_)
      rotate_left
      · go_simp
        with_reducible rfl
      simp only [List.getElem_toArray, List.getElem_cons_zero, List.getElem_cons_succ, Act.put, List.setIfInBounds_toArray, List.set_cons_zero, List.set_cons_succ]
      clear hS
      refine wpAnyT_done (by kernel_rfl) ?_ _
      replace HW := hide (And.intro (HW.out.1.trans (hSc.mono HW.out.1.size)) (And.intro (HW.out.2.1.below hSc) (HW.out.2.2.below hSc)))
      replace HB7 := hide (HB7.out.below hSc HB7.out.lt)
      replace HB10 := hide (HB10.out.below hSc HB10.out.lt)
      replace HB13 := hide (HB13.out.below hSc HB13.out.lt)
      replace HB16 := hide (HB16.out.below hSc HB16.out.lt)
      replace HB19 := hide (HB19.out.below hSc HB19.out.lt)
      clear hSc hSb
      go_upto_region 17 with fail
      refine wp_region_mix (fun z => Blk z g10 25 (setC X2).toArray ∧ Blk z g13 25 (setC X3).toArray ∧ Blk z g16 25 (setC X2).toArray) [] (by kernel_rfl) (fun hcl => ?_)
      have hSb : Below wF.heap.size wF wF.drew := (Below.refl _ _).drew
      have hS : Blk wF.drew g10 25 (setC X2).toArray ∧ Blk wF.drew g13 25 (setC X3).toArray ∧ Blk wF.drew g16 25 (setC X2).toArray := ⟨HB10.out.below hSb HB10.out.lt, HB13.out.below hSb HB13.out.lt, HB16.out.below hSb HB16.out.lt⟩
      generalize hwd : wF.drew = wF2 at *
      clear hwd
      refine wpAnyT_take (i := 0) hcl rfl (by kernel_rfl) (v := ?_) (fun _ _ _ h => h) hS (Or.inl ⟨rfl, fun w' hS => ?_⟩) (fun hcl => ?_)
      rotate_left
      · skip
        have cb : ∀ i : Nat, _ = _ := hS.2.2.cell
        simp only [setC] at cb
        go_simp
        with_reducible rfl
      simp only [List.getElem_toArray, List.getElem_cons_zero, List.getElem_cons_succ, Act.put, List.setIfInBounds_toArray, List.set_cons_zero, List.set_cons_succ]
      refine wpAnyT_take (i := 1) hcl rfl (by kernel_rfl) (v := ?_) (fun _ _ _ h => h) hS (Or.inl ⟨rfl, fun w' hS => ?_⟩) (fun hcl => ?_)
      rotate_left
      · skip
        have cb : ∀ i : Nat, _ = _ := hS.1.cell
        simp only [setC] at cb
        go_simp
        with_reducible rfl
      simp only [List.getElem_toArray, List.getElem_cons_zero, List.getElem_cons_succ, Act.put, List.setIfInBounds_toArray, List.set_cons_zero, List.set_cons_succ]
      refine wpAnyT_free (i := 2) hcl rfl (by kernel_rfl) (v := ?_) (fun _ _ _ h => h) hS (Or.inl ⟨rfl, fun w' _ => ?_⟩) (fun hcl => ?_)
      rotate_left
      · go_simp
        with_reducible rfl
      simp only [List.getElem_toArray, List.getElem_cons_zero, List.getElem_cons_succ, Act.put, List.setIfInBounds_toArray, List.set_cons_zero, List.set_cons_succ]
      refine wpAnyT_free (i := 3) hcl rfl (by kernel_rfl) (v := ?_) (fun _ _ _ h => h) hS (Or.inl ⟨rfl, fun w' _ => ?_⟩) (fun hcl => ?_)
      rotate_left
      · go_simp
        with_reducible rfl
      simp only [List.getElem_toArray, List.getElem_cons_zero, List.getElem_cons_succ, Act.put, List.setIfInBounds_toArray, List.set_cons_zero, List.set_cons_succ]
      refine wpAnyT_take (i := 4) hcl rfl (by kernel_rfl) (v := ?_) (fun _ _ _ h => h) hS (Or.inl ⟨rfl, fun w' hS => ?_⟩) (fun hcl => ?_)
      rotate_left
      · skip
        have cb : ∀ i : Nat, _ = _ := hS.2.1.cell
        simp only [setC] at cb
        go_simp
        with_reducible rfl
      simp only [List.getElem_toArray, List.getElem_cons_zero, List.getElem_cons_succ, Act.put, List.setIfInBounds_toArray, List.set_cons_zero, List.set_cons_succ]
      refine wpAnyT_take (i := 5) hcl rfl (by kernel_rfl) (v := ?_) (fun _ _ _ h => h) hS (Or.inl ⟨rfl, fun w' hS => ?_⟩) (fun hcl => ?_)
      rotate_left
      · skip
        have cb : ∀ i : Nat, _ = _ := hS.1.cell
        simp only [setC] at cb
        go_simp
        with_reducible rfl
      simp only [List.getElem_toArray, List.getElem_cons_zero, List.getElem_cons_succ, Act.put, List.setIfInBounds_toArray, List.set_cons_zero, List.set_cons_succ]
      refine wpAnyT_step (i := 6) hcl rfl (by kernel_rfl) (fun hcl => ?_)
      simp only [List.getElem_toArray, List.getElem_cons_zero, List.getElem_cons_succ, Act.put, List.setIfInBounds_toArray, List.set_cons_zero, List.set_cons_succ]
      go_wp2_with fail
      have hb8 := Blk.new wF2 5 #[.int .u8 10]
      have hbn := (Below.refl wF2.heap.size wF2).alloc (Nat.le_refl _) (.cells #[.int .u8 10] 5)
      generalize (wF2.alloc (.cells #[.int .u8 10] 5)) = wG at *
      have hS2 := hS
      clear hS
      have hS : Blk wG g10 25 (setC X2).toArray ∧ Blk wG g13 25 (setC X3).toArray ∧ Blk wG g16 25 (setC X2).toArray := ⟨hS2.1.below hbn hS2.1.lt, hS2.2.1.below hbn hS2.2.1.lt, hS2.2.2.below hbn hS2.2.2.lt⟩
      have hSc := hSb.trans (hbn.mono hSb.size)
      refine ⟨hS, ?_⟩
      have hof := of1_any 10 wF2.heap.size wG (by decide) hb8
      clear hS2 hbn hb8
      refine wpAnyT_step (i := 7) hcl rfl (by kernel_rfl) (fun hcl => ?_)
      simp only [List.getElem_toArray, List.getElem_cons_zero, List.getElem_cons_succ, Act.put, List.setIfInBounds_toArray, List.set_cons_zero, List.set_cons_succ]
      go_wp2_with fail
      refine hof.mono ?_
      rintro e wH ⟨rfl, hb3⟩
      clear hof
      have hS2 := hS
      clear hS
      have hS : Blk wH g10 25 (setC X2).toArray ∧ Blk wH g13 25 (setC X3).toArray ∧ Blk wH g16 25 (setC X2).toArray := ⟨hS2.1.below hb3 hS2.1.lt, hS2.2.1.below hb3 hS2.2.1.lt, hS2.2.2.below hb3 hS2.2.2.lt⟩
      replace hSc := hSc.trans (hb3.mono hSc.size)
      go_wp2_with fail
      refine ⟨hS, ?_⟩
      clear hS2 hb3
      have hls := less_any X2 (fun x => decide (x = 10)) wH
      rw [show (fun x => X2 x && !decide (x = 10)) = X3 from HX.out.2.1.symm] at hls
      generalize (fun x : Nat => decide (x = 10)) = N10 at *
      unfold SetIs setV setC at hls
      refine wpAnyT_step (i := 8) hcl rfl (by kernel_rfl) (fun hcl => ?_)
      simp only [List.getElem_toArray, List.getElem_cons_zero, List.getElem_cons_succ, Act.put, List.setIfInBounds_toArray, List.set_cons_zero, List.set_cons_succ]
      unfold setV setC
      go_wp2_with fail
      refine hls.mono ?_
      rintro e wI ⟨rfl, hb3⟩
      clear hls
      have hS2 := hS
      clear hS
      have hS : Blk wI g10 25 (setC X2).toArray ∧ Blk wI g13 25 (setC X3).toArray ∧ Blk wI g16 25 (setC X2).toArray := ⟨hS2.1.below hb3 hS2.1.lt, hS2.2.1.below hb3 hS2.2.1.lt, hS2.2.2.below hb3 hS2.2.2.lt⟩
      replace hSc := hSc.trans (hb3.mono hSc.size)
      go_wp2_with fail
      refine ⟨hS, ?_⟩
      clear hS2 hb3
      refine wpAnyT_free (i := 9) hcl rfl (by kernel_rfl) (v := ?_) (fun _ _ _ h => h) hS (Or.inl ⟨rfl, fun w' _ => ?_⟩) (fun hcl => ?_)
      rotate_left
      · go_simp
        with_reducible rfl
      simp only [List.getElem_toArray, List.getElem_cons_zero, List.getElem_cons_succ, Act.put, List.setIfInBounds_toArray, List.set_cons_zero, List.set_cons_succ]
      refine wpAnyT_free (i := 10) hcl rfl (by kernel_rfl) (v := ?_) (fun _ _ _ h => h) hS (Or.inl ⟨rfl, fun w' _ => ?_⟩) (fun hcl => ?_)
      rotate_left
      · go_simp
        with_reducible rfl
      simp only [List.getElem_toArray, List.getElem_cons_zero, List.getElem_cons_succ, Act.put, List.setIfInBounds_toArray, List.set_cons_zero, List.set_cons_succ]
      refine wpAnyT_free (i := 11) hcl rfl (by kernel_rfl) (v := ?_) (fun _ _ _ h => h) hS (Or.inl ⟨rfl, fun w' _ => ?_⟩) (fun hcl => ?_)
      rotate_left
      · go_simp
        with_reducible rfl
      simp only [List.getElem_toArray, List.getElem_cons_zero, List.getElem_cons_succ, Act.put, List.setIfInBounds_toArray, List.set_cons_zero, List.set_cons_succ]
      clear hS
      refine wpAnyT_done (by kernel_rfl) ?_ _
      go_wp2_with fail
      go_ret
      exact ⟨rfl, HW.out.1.trans (hSc.mono HW.out.1.size)⟩
set_option maxRecDepth 100000 in
set_option maxHeartbeats 1000000 in
theorem bracketTurns_law (items : ByteArray) (fl : Int) (a : Nat → Addr) (m : Int) (w : World) (hB : B5 w a m) (hT : ErrT w) : Calls Tryd.prog 4 #[.string items, .int .i64 fl] w fun e w' => e = .returned (.bool true) ∧ Below w.heap.size w w' := by
  have hmain := turns5_main items fl a m w hB hT
  have HLV := hide (lives5_any a m w hB hT)
  by_cases hs : items.size ≤ 5000
  · by_cases h0 : 0 < items.size
    · by_cases h94 : (items[0]'h0).toNat = 94
      · clear hmain hB hT
        have hg : decide (5000 < (items.size : Int)) = false := decide_eq_false (by omega)
        have hi0 : (0 : Int) < (items.size : Int) := by omega
        have hx : (((items[0]'h0).toNat : Int) == 94) = true := by rw [h94]; rfl
        have hem : items.toList.isEmpty = false := by
          rw [ByteArray.toList_eq]
          cases hl : items.data.toList with
          | nil =>
            have h3 : items.data.toList.length = items.size := by simp
            rw [hl, List.length_nil] at h3
            omega
          | cons _ _ => rfl
        go_enter Tryd.func4, Tryd.ntmps4
        go_wp2_with fail
        refine HLV.out.mono ?_
        rintro e w1 ⟨rfl, hb1⟩
        have HW := hide hb1
        clear hb1 HLV
        go_wp2_with fail
        go_ret
        exact ⟨rfl, HW.out⟩
      · exact hmain hs (fun e => by subst e; exact absurd h0 (by decide)) h0 h94
    · clear hmain hB hT
      have hg : decide (5000 < (items.size : Int)) = false := decide_eq_false (by omega)
      have hem : items.toList.isEmpty = true := by
        rw [ByteArray.toList_eq]
        cases hl : items.data.toList with
        | nil => rfl
        | cons _ _ =>
          have h3 : items.data.toList.length = items.size := by simp
          rw [hl, List.length_cons] at h3
          omega
      go_enter Tryd.func4, Tryd.ntmps4
      go_wp2_with fail
      refine HLV.out.mono ?_
      rintro e w1 ⟨rfl, hb1⟩
      have HW := hide hb1
      clear hb1 HLV
      go_wp2_with fail
      go_ret
      exact ⟨rfl, HW.out⟩
  · clear hmain hB hT
    have hg : decide (5000 < (items.size : Int)) = true := decide_eq_true (by omega)
    go_enter Tryd.func4, Tryd.ntmps4
    go_wp2_with fail
    refine HLV.out.mono ?_
    rintro e w1 ⟨rfl, hb1⟩
    have HW := hide hb1
    clear hb1 HLV
    go_wp2_with fail
    go_ret
    exact ⟨rfl, HW.out⟩
end Go.Proofs.YtdkonfdhedcajaaDoor
