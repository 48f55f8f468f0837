/- BreA: bre: number, has, fail, one, counts. (Printed by gen_brea.py.)
BreB: bre: counts. (Printed by gen_breb.py.)
BreC: bre: escaped, atom. (Printed by gen_brec.py.) -/
import Derived.Test.YtpkcklpjbeginaaGreatDoorEreA
import Derived.WalkLawsBesides
import Derived.Recover
import Derived.Defers
set_option linter.unusedSimpArgs false
set_option linter.unusedVariables false
set_option linter.unnecessarySimpa false

/-! ## BreA -/
namespace Go.Proofs.YtpkcklpjbeginaaGreatDoor
open Go.RowKit

/-- The reader of a basic pattern in memory: the pattern, the place, flags, groups so far, how many are open. -/
def RdB (y : World) (gr B0 : Nat) (p : ByteArray) (i : Nat) (fl : Int) (g n : Nat) : Prop :=
  RdG y 75 gr B0 #[.string p, .int .i64 (i : Int), .int .i64 fl, .int .i64 (g : Int), .int .i64 (n : Int)] (.slice none 0 0) 0
theorem empty_text {s : ByteArray} (h : s.size = 0) : s = ⟨#[]⟩ := by
  apply ByteArray.ext
  apply Array.toList_inj.1
  exact List.eq_nil_of_length_eq_zero (by rw [data_len]; exact h)
theorem some_text {s : ByteArray} (h : ¬ s.size = 0) : (¬ s = ⟨#[]⟩) ∧ s.toList.isEmpty = false := by
  constructor
  · intro e; rw [e] at h; exact h rfl
  · rw [ByteArray.toList_eq]
    cases hl : s.data.toList with
    | nil => have := data_len s; rw [hl] at this; exact absurd this.symm h
    | cons => rfl
set_option maxRecDepth 100000 in
set_option maxHeartbeats 1000000 in
theorem breNumber_any (s : ByteArray) (w : World) : Calls Tryz.prog 134 #[.string s] w (NumIs s w) := by
  have HB3 := hide (fun (h : s.size < 1 ∨ 3 < s.size) => show numP s = none ∧ numV s = 0 from ⟨by unfold numP; rw [if_pos h], by unfold numV; rw [if_pos h]; rfl⟩)
  have HNo := hide (fun (h : numF s (s.size - 0) 0 0 = none) => show numP s = none ∧ numV s = 0 from ⟨by unfold numP; rw [Nat.sub_zero] at h; rw [h]; split <;> rfl, by unfold numV; rw [Nat.sub_zero] at h; rw [h]; split <;> rfl⟩)
  have HN := hide (fun (h : ¬ (s.size < 1 ∨ 3 < s.size)) => show numP s = (match numF s (s.size - 0) 0 0 with | none => none | some n => if n ≤ 255 then some n else none) ∧ numV s = (numF s (s.size - 0) 0 0).getD 0 from ⟨by unfold numP; rw [if_neg h]; rfl, by unfold numV; rw [if_neg h]; rfl⟩)
  go_enter Tryz.func134, Tryz.ntmps134
  go_wp2_with fail
  go_loopw [4, 8] (fun nv kv wr => ∃ k n : Nat, kv = .int .i64 (k : Int) ∧ nv = .int .i64 (n : Int) ∧ k ≤ s.size ∧ k ≤ 3 ∧ n ≤ 999 ∧ (k ≤ 2 → n ≤ 99) ∧ (k ≤ 1 → n ≤ 9) ∧ (k = 0 → n = 0) ∧ numF s (s.size - k) k n = numF s (s.size - 0) 0 0 ∧ Below w.heap.size w wr) (fun _ kv _ => s.size - (intOf kv).toNat)
  case atStart => exact ⟨0, 0, rfl, rfl, Nat.zero_le _, by omega, by omega, fun _ => by omega, fun _ => by omega, fun _ => rfl, rfl, Below.refl _ _⟩
  case round =>
    obtain ⟨k, n, rfl, rfl, hk, hk3, hn1, hn2, hn3, hn4, hnum, hb⟩ := hrel
    have HB := hide hb
    clear hb
    by_cases hlt : k < s.size
    case neg =>
      have g1 : decide ((k : Int) < (s.size : Int)) = false := decide_eq_false (by omega)
      by_cases h0 : s.size = 0
      · have HV := hide (HB3.out (.inl (by omega)))
        have hk0 : k = 0 := by omega
        have hnz : n = 0 := hn4 hk0
        subst hnz
        have he := empty_text h0
        clear hnum h0
        subst he
        go_wp2_with fail
        go_ret2
        exact ⟨by rw [HV.out.1, HV.out.2]; rfl, HB.out⟩
      · obtain ⟨q1, q2⟩ := some_text h0
        have hr : ¬ (s.size < 1 ∨ 3 < s.size) := by omega
        have HV := hide (show numP s = if n ≤ 255 then some n else none from by rw [(HN.out hr).1, ← hnum, numF_end (by omega)])
        have HV2 := hide (show numV s = n from by rw [(HN.out hr).2, ← hnum, numF_end (by omega)]; rfl)
        clear hnum h0 hr
        by_cases hbd : n ≤ 255
        · have g2 : decide ((n : Int) ≤ 255) = true := decide_eq_true (by omega)
          have HW := hide (HV.out.trans (if_pos hbd))
          go_wp2_with fail
          go_ret2
          exact ⟨by rw [HW.out, HV2.out]; rfl, HB.out⟩
        · have g2 : decide ((n : Int) ≤ 255) = false := decide_eq_false (by omega)
          have HW := hide (HV.out.trans (if_neg hbd))
          go_wp2_with fail
          go_ret2
          exact ⟨by rw [HW.out, HV2.out]; rfl, HB.out⟩
    case pos =>
      have g1 : decide ((k : Int) < (s.size : Int)) = true := decide_eq_true (by omega)
      have hst := hnum.symm.trans (numF_step hlt)
      rw [pb_at hlt] at hst
      have hc := (s[k]'hlt).toNat_lt
      obtain ⟨b, hb⟩ : ∃ b, b = (s[k]'hlt).toNat := ⟨_, rfl⟩
      rw [← hb] at hst hc
      have HS := hide hst
      clear hst hnum
      by_cases c1 : b < 48
      · have g2 : (s[k]'hlt).toNat < 48 := by omega
        have HW := hide (HNo.out (by rw [HS.out, if_neg (by omega)]))
        clear hb
        go_wp2_with fail
        go_ret2
        exact ⟨by rw [HW.out.1, HW.out.2]; rfl, HB.out⟩
      by_cases c2 : 57 < b
      · have g2 : ¬ (s[k]'hlt).toNat < 48 := by omega
        have g3 : 57 < (s[k]'hlt).toNat := by omega
        have HW := hide (HNo.out (by rw [HS.out, if_neg (by omega)]))
        clear hb
        go_wp2_with fail
        go_ret2
        exact ⟨by rw [HW.out.1, HW.out.2]; rfl, HB.out⟩
      have g2 : ¬ (s[k]'hlt).toNat < 48 := by omega
      have g3 : ¬ 57 < (s[k]'hlt).toNat := by omega
      by_cases c3 : k = 3
      · have HW := hide (HB3.out (.inr (by omega)))
        subst c3
        clear hb
        go_wp2_with fail
        go_ret2
        exact ⟨by rw [HW.out.1, HW.out.2]; rfl, HB.out⟩
      have g4 : ((k : Int) == 3) = false := by rw [beq_eq_false_iff_ne]; omega
      have HW := hide (show numF s (s.size - (k + 1)) (k + 1) (10 * n + (b - 48)) = numF s (s.size - 0) 0 0 from by rw [HS.out, if_pos (by omega)])
      have e1 : IntKind.u8.wrap (((s[k]'hlt).toNat : Int) - 48) = ((b - 48 : Nat) : Int) := by rw [IntKind.wrap_u8']; omega
      have hkk : k = 0 ∨ k = 1 ∨ k = 2 := by omega
      go_wp2_with fail
      go_roundw
      case rel => exact ⟨k + 1, 10 * n + (b - 48), by go_num, by first | (rw [e1]; go_num) | go_num, hlt, by omega, by omega, fun _ => by omega, fun _ => by omega, fun _ => by omega, HW.out, HB.out⟩
      case measure => simp [intOf]; omega
/-- Does a text stand next? -/
def begins (p : ByteArray) (i : Nat) : List Nat → Bool
  | [] => true
  | c :: l => decide (pb p i = c) && begins p (i + 1) l
theorem begins_prefix (p : ByteArray) : ∀ (l : List Nat) (i : Nat), (∀ c ∈ l, c < 256) → (l.map Nat.toUInt8).isPrefixOf (p.data.toList.drop i) = begins p i l
  | [], i, _ => rfl
  | c :: l, i, h => by
    have h1 := occ1 p c i (h c (by simp))
    have ih := begins_prefix p l (i + 1) (fun x hx => h x (by simp [hx]))
    unfold Lib.occAt at h1
    by_cases hi : i < p.size
    · have hl : i < p.data.toList.length := by rw [data_len]; exact hi
      rw [List.drop_eq_getElem_cons hl] at h1 ⊢
      simp only [List.isPrefixOf, Bool.and_true] at h1
      simp only [List.map_cons, List.isPrefixOf, begins, ih, h1]
    · rw [List.drop_eq_nil_of_le (by rw [data_len]; omega)]
      simp only [List.map_cons, List.isPrefixOf, begins, pb_none hi]
      have := h c (by simp)
      rw [decide_eq_false (show ¬ 256 = c by omega)]
      rfl
theorem breHas_any {y : World} {gr B0 : Nat} {p : ByteArray} {i : Nat} {fl : Int} {g n : Nat} (h : RdB y gr B0 p i fl g n) (hp : p.size ≤ 1024) (hi : i ≤ p.size) (l : List Nat) (hl : ∀ c ∈ l, c < 256) (q : ByteArray) (hq : q = ⟨(l.map Nat.toUInt8).toArray⟩) :
    Calls Tryz.prog 70 #[.pointer (some ⟨gr, 0, none⟩), .string q] y fun e y' => e = .returned (.bool (begins p i l)) ∧ Below y.heap.size y y' := by
  have c0 := h.box.cell
  clear h
  have HH := hide (fun (z : World) => show Calls Tryz.prog 106 #[.string (p.extract i p.size), .string q] z fun e z' => e = .returned (.bool (begins p i l)) ∧ z' = z from by
    have h1 := hasPre6_any (p.extract i p.size) q z
    have h2 : Lib.hasPrefix (p.extract i p.size).data.toList q.data.toList = begins p i l := by
      rw [← begins_prefix p l i hl, hq, extract_list, List.take_of_length_le (by rw [List.length_drop, data_len]; omega)]
      rfl
    rw [h2] at h1
    exact h1)
  have k1 : (i : Int) ≤ (p.size : Int) := by omega
  clear hq
  go_enter Tryz.func70, Tryz.ntmps70
  go_upto_region 1 with fail
  go_big_quiet (exact Calls.quiet_of_same (HH.out _))
  have hbq := below_drewN6 (Below.refl y.heap.size y) nq
  clear c0 HH
  generalize y.drewN nq = z at *
  go_wp2_with fail
  go_ret
  exact ⟨rfl, hbq⟩
/-- Reading has given up by panic: the first fault and its place. -/
def PanB (a : Nat → Addr) (gr B0 c : Nat) (pl : Int) (y : World) (e : Ending) (y' : World) : Prop :=
  ∃ gf, e = .panicked [{ v := .iface 72 (.agg #[faultV gf]), recovered := false }] ∧ FaultIs a y' gf c pl ∧ RdF gr B0 none none y y'
set_option maxHeartbeats 1000000 in
theorem breFail_any {y : World} {gr B0 : Nat} (hB : B0 ≤ y.heap.size) (a : Nat → Addr) (c : Nat) (pl : Int) :
    Calls Tryz.prog 45 #[.int .i64 pl, errV (a (sentVar c))] y (PanB a gr B0 c pl y) := by
  have HF := hide (fault_any pl (a (sentVar c)) y)
  obtain ⟨er, her⟩ : ∃ er, er = errV (a (sentVar c)) := ⟨_, rfl⟩
  rw [← her] at HF ⊢
  have HER := hide her
  clear her
  go_enter Tryz.func45, Tryz.ntmps45
  go_wp2_with fail
  refine HF.out.mono ?_
  rintro e w1 ⟨gf, rfl, hgf, hfb, hb⟩
  have HX := hide (And.intro hfb hb)
  clear hfb hb HF hgf
  unfold faultV
  go_wp2_with fail
  refine ⟨rfl, gf, rfl, ?_, RdF.of_below hB HX.out.2⟩
  unfold FaultIs
  rw [← HER.out]
  exact HX.out.1
set_option maxRecDepth 100000 in
set_option maxHeartbeats 1000000 in
theorem breOne_any {y : World} {gr : Nat} {p : ByteArray} {i : Nat} {fl : Int} {g : Nat} {nv : Value} (hBox : Blk y gr 75 #[.string p, .int .i64 (i : Int), .int .i64 fl, .int .i64 (g : Int), nv]) (b : Nat) (hb256 : b < 256) :
    Calls Tryz.prog 132 #[.pointer (some ⟨gr, 0, none⟩), .int .u8 (b : Int)] y (BytIs (oneS (!decide (bits .and .i64 fl 2 = 0)) b) y) := by
  have hz0 := Blk.new y 27 zeroCells
  have hbel := (Below.refl y.heap.size y).alloc (Nat.le_refl _) (.cells zeroCells 27)
  have H0 := hide (And.intro (hBox.alloc (.cells zeroCells 27)) (And.intro hbel hz0))
  clear hBox hz0 hbel
  obtain ⟨R, hR⟩ : ∃ R, R = oneS (!decide (bits .and .i64 fl 2 = 0)) b := ⟨_, rfl⟩
  rw [← hR]
  have HR := hide hR
  clear hR
  unfold zeroCells at *
  go_enter Tryz.func132, Tryz.ntmps132
  go_upto_region 1 with fail
  generalize (y.alloc (.cells #[.int .i64 0, .int .u64 0, .int .u64 0, .int .u64 0, .int .u64 0, .slice none 0 0, .int .i64 0, .int .i64 0, .int .i64 0, .bool false] 27)) = W at *
  have HOf := hide (of1_any b W.heap.size (W.alloc (.cells #[.int .u8 (b : Int)] 5)) hb256 (Blk.new _ _ _))
  go_wp2_with fail
  refine HOf.out.mono ?_
  rintro e w1 ⟨rfl, hb1⟩
  have hb1' := ((Below.refl W.heap.size W).alloc (Nat.le_refl _) (.cells #[.int .u8 (b : Int)] 5)).trans (hb1.mono (by simp))
  have hb2' := hb1'.trans ((Below.refl w1.heap.size w1).alloc (Nat.le_refl _) (.cells #[.int .u64 0, .int .u64 0, .int .u64 0, .int .u64 0] 24) |>.mono hb1'.size)
  have hne := Blk.new w1 24 #[.int .u64 0, .int .u64 0, .int .u64 0, .int .u64 0]
  have H1 := hide (And.intro (H0.out.1.below hb2' H0.out.1.lt) (And.intro (H0.out.2.1.trans (hb2'.mono H0.out.2.1.size)) (And.intro (H0.out.2.2.below hb2' H0.out.2.2.lt) hne)))
  have HZ1 := hide (Nat.lt_of_lt_of_le H0.out.2.2.lt hb1'.size)
  clear hb1 hb1' hb2' hne HOf
  obtain ⟨S, hS⟩ : ∃ S : Nat → Bool, S = fun x => decide (x = b) := ⟨_, rfl⟩
  rw [← hS]
  have HS := hide hS
  clear hS
  go_upto_region 2 with (refine wpList_store_set rfl _ _ rfl w1.heap.size _ _ rfl rfl H1.out.2.2.2 rfl ?_; intro w2 hrow_w2 hg_w2 hz_w2)
  have hlt2 := HZ1.out
  have H2 := hide (And.intro (H1.out.1.grown hg_w2 (fun e => (blk_ne6 H1.out.1 H1.out.2.2.2 (by decide)) (Option.some.inj e))) (And.intro (below_grew H1.out.2.1 hg_w2 (Nat.le_refl _) (fun q hq => by rw [← Option.some.inj hq]; omega)) (And.intro (H1.out.2.2.1.grown hg_w2 (fun e => by have := Option.some.inj e; omega)) hrow_w2)))
  clear hg_w2 hz_w2 hrow_w2
  have c1 := H2.out.1.cell
  have z1 := H2.out.1.lt
  by_cases hic : bits .and .i64 fl 2 = 0
  · have HE := hide (show R = S from by rw [HR.out, hic, HS.out]; rfl)
    have HB := hide (fun y => bytes6_any S y)
    clear HR HS
    go_wp2_with (refine wpList_load_set rfl _ rfl w1.heap.size _ rfl H2.out.2.2.2 ?_)
    refine (HB.out _).mono ?_
    rintro e w3 ⟨rfl, hb3⟩
    have H3 := hide (And.intro (H2.out.2.1.trans (hb3.mono H2.out.2.1.size)) (H2.out.2.2.1.below hb3 H2.out.2.2.1.lt))
    clear hb3 c1
    go_wp2_with (refine wpList_store_node rfl _ _ rfl y.heap.size _ _ _ _ _ rfl rfl H3.out.2 rfl ?_; intro w9 hrow9 hg9 hz9)
    refine bodyPost_ret (node_result rfl _ _ y.heap.size _ _ rfl hrow9) rfl ?_
    exact ⟨by rw [HE.out], below_grew H3.out.1 hg9 (Nat.le_refl _) (fun q hq => by rw [← Option.some.inj hq]; exact Nat.le_refl _)⟩
  · have HE := hide (show R = fold5 S from by rw [HR.out, HS.out]; unfold oneS; rw [decide_eq_false hic]; rfl)
    have HFo := hide (fun y => foldc_any S y)
    have hic2 : (bits .and .i64 fl 2 != 0) = true := by rw [bne_iff_ne]; exact hic
    clear HR HS
    go_wp2_with (refine wpList_load_set rfl _ rfl w1.heap.size _ rfl H2.out.2.2.2 ?_)
    refine (HFo.out _).mono ?_
    rintro e w3 ⟨rfl, hb3⟩
    have H3 := hide (And.intro (H2.out.2.1.trans (hb3.mono H2.out.2.1.size)) (And.intro (H2.out.2.2.1.below hb3 H2.out.2.2.1.lt) (H2.out.2.2.2.below hb3 H2.out.2.2.2.lt)))
    clear hb3 c1 HFo
    generalize fold5 S = S2 at *
    go_upto_region 4 with (refine wpList_store_set rfl _ _ rfl w1.heap.size _ _ rfl rfl H3.out.2.2 rfl ?_; intro w4 hrow_w4 hg_w4 hz_w4)
    have H4 := hide (And.intro (below_grew H3.out.1 hg_w4 (Nat.le_refl _) (fun q hq => by rw [← Option.some.inj hq]; omega)) (And.intro (H3.out.2.1.grown hg_w4 (fun e => by have := Option.some.inj e; omega)) hrow_w4))
    have HB := hide (fun y => bytes6_any S2 y)
    clear hg_w4 hz_w4 hrow_w4
    go_wp2_with (refine wpList_load_set rfl _ rfl w1.heap.size _ rfl H4.out.2.2 ?_)
    refine (HB.out _).mono ?_
    rintro e w5 ⟨rfl, hb5⟩
    have H5 := hide (And.intro (H4.out.1.trans (hb5.mono H4.out.1.size)) (H4.out.2.1.below hb5 H4.out.2.1.lt))
    clear hb5
    go_wp2_with (refine wpList_store_node rfl _ _ rfl y.heap.size _ _ _ _ _ rfl rfl H5.out.2 rfl ?_; intro w9 hrow9 hg9 hz9)
    refine bodyPost_ret (node_result rfl _ _ y.heap.size _ _ rfl hrow9) rfl ?_
    exact ⟨by rw [HE.out], below_grew H5.out.1 hg9 (Nat.le_refl _) (fun q hq => by rw [← Option.some.inj hq]; exact Nat.le_refl _)⟩
end Go.Proofs.YtpkcklpjbeginaaGreatDoor

/-! ## BreB -/
namespace Go.Proofs.YtpkcklpjbeginaaGreatDoor
open Go.RowKit

/-- What stands in braces behind a backslash, from a place on. -/
def countsB (p : ByteArray) (i : Nat) : RR := if find2 p 92 125 (i + 2) = p.size then .bad 2 else match countsP (p.extract (i + 2) (find2 p 92 125 (i + 2))) with
  | none => .bad 3
  | some (a, b) => .yes a b (find2 p 92 125 (i + 2) + 2)
def CntB (r : RR) (a : Nat → Addr) (gr B0 : Nat) (p : ByteArray) (i : Nat) (fl : Int) (g n : Nat) (y : World) (e : Ending) (y' : World) : Prop := match r with
  | .no => False
  | .bad c => PanB a gr B0 c (i : Int) y e y'
  | .yes u v k => e = .returned (.tuple #[.int .i64 (u : Int), .int .i64 v]) ∧ RdB y' gr B0 p k fl g n ∧ RdF gr B0 none none y y'
theorem cntB_bad {r : RR} {a : Nat → Addr} {gr B0 : Nat} {p : ByteArray} {i : Nat} {fl : Int} {g n c : Nat} {y y' : World} {e : Ending} (hr : r = .bad c) (h : PanB a gr B0 c (i : Int) y e y') : CntB r a gr B0 p i fl g n y e y' := by subst hr; exact h
theorem cntB_yes {r : RR} {a : Nat → Addr} {gr B0 : Nat} {p : ByteArray} {i : Nat} {fl : Int} {g n u k : Nat} {v : Int} {y y' : World} (hr : r = .yes u v k) (h1 : RdB y' gr B0 p k fl g n) (h2 : RdF gr B0 none none y y') : CntB r a gr B0 p i fl g n y (.returned (.tuple #[.int .i64 (u : Int), .int .i64 v])) y' := by subst hr; exact ⟨rfl, h1, h2⟩
theorem find2_in {p : ByteArray} {i : Nat} (h : ¬ find2 p 92 125 i = p.size) : find2 p 92 125 i + 2 ≤ p.size ∨ p.size ≤ i := by
  rcases find2_hit h with h1 | h1
  · have := pb_ins h1.2 (by decide); exact .inl (by omega)
  · exact .inr h1
set_option maxRecDepth 100000 in
set_option maxHeartbeats 4000000 in
theorem breCounts_any {y : World} {gr B0 : Nat} {p : ByteArray} {i : Nat} {fl : Int} {g n : Nat} (h : RdB y gr B0 p i fl g n) (hp : p.size ≤ 1024) (hi : i + 2 ≤ p.size) (hB : B0 ≤ y.heap.size) (a : Nat → Addr) (m : Int) (hm : ∀ y', Below B0 y y' → B5 y' a m) :
    Calls Tryz.prog 108 #[.pointer (some ⟨gr, 0, none⟩)] y (CntB (countsB p i) a gr B0 p i fl g n y) := by
  have HM := hide hm
  have HB := hide hB
  have H0 := hide h
  obtain ⟨s, hs⟩ : ∃ s, s = p.extract (i + 2) p.size := ⟨_, rfl⟩
  have hss : s.size = p.size - (i + 2) := by rw [hs, ByteArray.size_extract]; omega
  have hrest := find2_rest p 92 125 (i + 2) (by decide) (by decide) hi
  rw [← hs] at hrest
  have hle := find2_le p 92 125 (i + 2) hi
  have hfin := find2_in (p := p) (i := i + 2)
  have hA : s.extract 0 (find2 s 92 125 0) = p.extract (i + 2) (find2 p 92 125 (i + 2)) := by
    apply ByteArray.ext
    apply Array.toList_inj.1
    rw [extract_list, extract_list, hs, extract_list, List.drop_zero, Nat.sub_zero, List.take_take, ← hs]
    congr 1
    omega
  obtain ⟨f, hf⟩ : ∃ f, f = find2 p 92 125 (i + 2) := ⟨_, rfl⟩
  rw [← hf] at hrest hle hfin hA
  obtain ⟨res, hres⟩ : ∃ res, res = countsB p i := ⟨_, rfl⟩
  rw [← hres]
  unfold countsB at hres
  rw [← hf] at hres
  have HCt := hide (cutTwo_any s m y (by omega) (hm y (Below.refl _ _)).ml)
  obtain ⟨q, hq⟩ : ∃ q, q = find2 s 92 125 0 := ⟨_, rfl⟩
  rw [← hq] at HCt hA hrest
  obtain ⟨A, hAA⟩ : ∃ A, A = p.extract (i + 2) f := ⟨_, rfl⟩
  rw [hA, ← hAA] at HCt
  rw [← hAA] at hres
  have hAs : A.size ≤ 1024 := by rw [hAA, ByteArray.size_extract]; omega
  have HRS := hide hres
  have HSS := hide hss
  have HQ := hide hrest
  have HL := hide (And.intro hle hfin)
  have hpe := hs.symm
  clear hres hq hf hm h hB hA hAA hs hss hrest hle hfin
  have c0 := H0.out.box.cell
  have k2 : ((i : Int) + 2) ≤ (p.size : Int) := by omega
  have iw : IntKind.i64.wrap ((i : Int) + 2) = (i : Int) + 2 := wrapI (by omega) (by omega)
  have hpe2 : p.extract ((i : Int) + 2).toNat p.size = s := by rw [show ((i : Int) + 2).toNat = i + 2 from rfl]; exact hpe
  go_enter Tryz.func108, Tryz.ntmps108
  go_wp2_with fail
  refine HCt.out.mono ?_
  rintro e w1 ⟨r, rfl, hr, hb1⟩
  have H1 := hide (And.intro (H0.out.next hb1) (RdF.of_below (gr := gr) (x := none) HB.out hb1))
  have HB1 := hide (Nat.le_trans HB.out hb1.size)
  have HR := hide hr
  obtain ⟨tw, htw⟩ : ∃ tw, tw = !decide (q = s.size) := ⟨_, rfl⟩
  rw [← htw]
  have HTw := hide htw
  clear hr hb1 HCt htw c0 hpe hpe2 k2 iw H0
  cases tw with
  | false =>
    have hqs : q = s.size := by have := HTw.out; simpa using this
    have HE := hide (show res = .bad 2 from by rw [HRS.out, if_pos (by have h1 := HQ.out; have h2 := HSS.out; omega)])
    have ceq := (HM.out _ H1.out.2.below).errs.var 5 (by decide)
    go_wp2_with fail
    refine (breFail_any (gr := gr) (B0 := B0) HB1.out a 2 (i : Int)).mono ?_
    rintro e wf ⟨gf, rfl, hfi, hff⟩
    have HFi := hide (And.intro hfi (H1.out.2.trans hff))
    clear ceq hfi hff
    unfold faultV
    go_wp2_with fail
    refine ⟨rfl, ?_⟩
    exact cntB_bad HE.out ⟨gf, rfl, HFi.out.1, HFi.out.2⟩
  | true =>
    have hqs : ¬ q = s.size := by have := HTw.out; simpa using this
    have hrr := HR.out hqs
    have hq1 : q + (i + 2) = f := HQ.out
    have hfs : ¬ f = p.size := fun e => hqs (by have := HSS.out; omega)
    have hf2 : f + 2 ≤ p.size := (HL.out.2 hfs).elim id (fun h => by have := HL.out.1; omega)
    have hrs : r.size = p.size - (f + 2) := by rw [hrr, ByteArray.size_extract]; have := HSS.out; omega
    have HRS2 := hide (show res = (match countsP A with | none => .bad 3 | some (a, b) => .yes a b (f + 2)) from by rw [HRS.out, if_neg hfs])
    have HW1 := hide (show (p.size : Int) - (r.size : Int) = ((f + 2 : Nat) : Int) from by rw [hrs]; omega)
    have hrp : r.size ≤ p.size := by omega
    clear HRS HR hrr hqs hfs hrs
    have c0 := H1.out.1.box.cell
    have f0 := H1.out.1.box.frozen
    go_upto_region 6 with fail
    rw [HW1.out]
    have H2 := hide (And.intro (show RdB (w1.setCell ⟨gr, 1, none⟩ (.int .i64 ((f + 2 : Nat) : Int))) gr B0 p (f + 2) fl g n from H1.out.1.set 1 _) (H1.out.2.set H1.out.1.base 1 (.int .i64 ((f + 2 : Nat) : Int))))
    have HB2 := hide (show B0 ≤ (w1.setCell ⟨gr, 1, none⟩ (.int .i64 ((f + 2 : Nat) : Int))).heap.size from by rw [World.size_setCell]; exact HB1.out)
    generalize (w1.setCell ⟨gr, 1, none⟩ (.int .i64 ((f + 2 : Nat) : Int))) = w2 at *
    clear c0 f0 H1 HB1 HW1
    have HCo := hide (cutComma_any A m w2 (by omega) (HM.out _ H2.out.2.below).ml)
    have HP := hide (countsP_eq A)
    have HX := hide (extract_all A)
    have HFs := hide (findB_spec A 44 0 (Nat.zero_le _))
    obtain ⟨fc, hfc⟩ : ∃ fc, fc = findB A 44 0 := ⟨_, rfl⟩
    rw [← hfc] at HCo HP HFs
    clear hfc
    go_wp2_with fail
    refine HCo.out.mono ?_
    rintro e w3 ⟨r2, rfl, hr2, hb3⟩
    have H3 := hide (And.intro (H2.out.1.next hb3) (H2.out.2.next HB2.out hb3))
    have HB3 := hide (Nat.le_trans HB2.out hb3.size)
    have HR2 := hide hr2
    clear hr2 hb3 HCo H2 HB2
    obtain ⟨tw2, htw2⟩ : ∃ tw2, tw2 = !decide (fc = A.size) := ⟨_, rfl⟩
    rw [← htw2]
    obtain ⟨A1, hA1⟩ : ∃ A1, A1 = A.extract 0 fc := ⟨_, rfl⟩
    rw [← hA1]
    rw [← hA1] at HP
    have HTw2 := hide htw2
    have HA1 := hide hA1
    clear htw2 hA1
    go_wp2_with fail
    refine (breNumber_any A1 w3).mono ?_
    rintro e w4 ⟨rfl, hb4⟩
    have H4 := hide (And.intro (H3.out.1.next hb4) (H3.out.2.next HB3.out hb4))
    have HB4 := hide (Nat.le_trans HB3.out hb4.size)
    clear hb4 H3 HB3
    cases tw2 with
    | false =>
      have hfs : fc = A.size := by have := HTw2.out; simpa using this
      have hA : A1 = A := by rw [HA1.out, hfs]; exact HX.out
      have HP2 := hide (HP.out.trans (if_pos hfs))
      rw [← hA] at HP2 HRS2
      clear hfs HP HX
      cases hq : numP A1 with
      | none =>
        simp only [Option.isSome_none]
        have HE := hide (show res = .bad 3 from by rw [HRS2.out, HP2.out, hq])
        clear hq
        have ceq := (HM.out _ H4.out.2.below).errs.var 6 (by decide)
        go_wp2_with fail
        refine (breFail_any (gr := gr) (B0 := B0) HB4.out a 3 (i : Int)).mono ?_
        rintro e wf ⟨gf, rfl, hfi, hff⟩
        have HFi := hide (And.intro hfi (H4.out.2.trans hff))
        clear ceq hfi hff
        unfold faultV
        go_wp2_with fail
        refine ⟨rfl, ?_⟩
        exact cntB_bad HE.out ⟨gf, rfl, HFi.out.1, HFi.out.2⟩
      | some x =>
        simp only [Option.isSome_some]
        rw [numV_of hq]
        have HE := hide (show res = .yes x (x : Int) (f + 2) from by rw [HRS2.out, HP2.out, hq])
        clear hq
        go_wp2_with fail
        go_ret2
        exact cntB_yes HE.out H4.out.1 H4.out.2
    | true =>
      have hfs : ¬ fc = A.size := by have := HTw2.out; simpa using this
      have HP2 := hide (HP.out.trans (if_neg hfs))
      have hre := HR2.out hfs
      have hfl := HFs.out.2.1
      clear HP HX
      by_cases hem : fc + 1 = A.size
      · have h1 : r2 = ⟨#[]⟩ := empty_text (by rw [hre, ByteArray.size_extract]; omega)
        subst h1
        clear hre HR2
        cases hq : numP A1 with
        | none =>
          simp only [Option.isSome_none]
          have HE := hide (show res = .bad 3 from by rw [HRS2.out, HP2.out, hq])
          clear hq
          have ceq := (HM.out _ H4.out.2.below).errs.var 6 (by decide)
          go_wp2_with fail
          refine (breFail_any (gr := gr) (B0 := B0) HB4.out a 3 (i : Int)).mono ?_
          rintro e wf ⟨gf, rfl, hfi, hff⟩
          have HFi := hide (And.intro hfi (H4.out.2.trans hff))
          clear ceq hfi hff
          unfold faultV
          go_wp2_with fail
          refine ⟨rfl, ?_⟩
          exact cntB_bad HE.out ⟨gf, rfl, HFi.out.1, HFi.out.2⟩
        | some x =>
          simp only [Option.isSome_some]
          rw [numV_of hq]
          have HE := hide (show res = .yes x (-1) (f + 2) from by rw [HRS2.out, HP2.out, hq]; simp only [if_pos hem])
          clear hq
          go_wp2_with fail
          go_ret2
          exact cntB_yes HE.out H4.out.1 H4.out.2
      · obtain ⟨h1, h2⟩ := some_text (s := r2) (by rw [hre, ByteArray.size_extract]; omega)
        cases hq : numP A1 with
        | none =>
          simp only [Option.isSome_none]
          have HE := hide (show res = .bad 3 from by rw [HRS2.out, HP2.out, hq])
          clear hq hre HR2
          go_wp2_with fail
          refine (breNumber_any r2 w4).mono ?_
          rintro e w5 ⟨rfl, hb5⟩
          have H5 := hide (And.intro (H4.out.1.next hb5) (H4.out.2.next HB4.out hb5))
          have HB5 := hide (Nat.le_trans HB4.out hb5.size)
          clear hb5 H4 HB4
          generalize numV r2 = v2
          generalize numV A1 = v1
          cases (numP r2).isSome with
          | false =>
            have ceq := (HM.out _ H5.out.2.below).errs.var 6 (by decide)
            go_wp2_with fail
            refine (breFail_any (gr := gr) (B0 := B0) HB5.out a 3 (i : Int)).mono ?_
            rintro e wf ⟨gf, rfl, hfi, hff⟩
            have HFi := hide (And.intro hfi (H5.out.2.trans hff))
            clear ceq hfi hff
            unfold faultV
            go_wp2_with fail
            refine ⟨rfl, ?_⟩
            exact cntB_bad HE.out ⟨gf, rfl, HFi.out.1, HFi.out.2⟩
          | true =>
            by_cases hle : v1 ≤ v2
            · have g1 : decide ((v1 : Int) ≤ (v2 : Int)) = true := decide_eq_true (by omega)
              have ceq := (HM.out _ H5.out.2.below).errs.var 6 (by decide)
              go_wp2_with fail
              refine (breFail_any (gr := gr) (B0 := B0) HB5.out a 3 (i : Int)).mono ?_
              rintro e wf ⟨gf, rfl, hfi, hff⟩
              have HFi := hide (And.intro hfi (H5.out.2.trans hff))
              clear ceq hfi hff
              unfold faultV
              go_wp2_with fail
              refine ⟨rfl, ?_⟩
              exact cntB_bad HE.out ⟨gf, rfl, HFi.out.1, HFi.out.2⟩
            · have g1 : decide ((v1 : Int) ≤ (v2 : Int)) = false := decide_eq_false (by omega)
              have ceq := (HM.out _ H5.out.2.below).errs.var 6 (by decide)
              go_wp2_with fail
              refine (breFail_any (gr := gr) (B0 := B0) HB5.out a 3 (i : Int)).mono ?_
              rintro e wf ⟨gf, rfl, hfi, hff⟩
              have HFi := hide (And.intro hfi (H5.out.2.trans hff))
              clear ceq hfi hff
              unfold faultV
              go_wp2_with fail
              refine ⟨rfl, ?_⟩
              exact cntB_bad HE.out ⟨gf, rfl, HFi.out.1, HFi.out.2⟩
        | some x =>
          simp only [Option.isSome_some]
          rw [numV_of hq]
          have HP3 := hide (show countsP A = (match numP r2 with | none => none | some b => if x ≤ b then some (x, (b : Int)) else none) from by rw [HP2.out, hq, hre]; simp only [if_neg hem]; rfl)
          clear hq hre HR2 HP2
          go_wp2_with fail
          refine (breNumber_any r2 w4).mono ?_
          rintro e w5 ⟨rfl, hb5⟩
          have H5 := hide (And.intro (H4.out.1.next hb5) (H4.out.2.next HB4.out hb5))
          have HB5 := hide (Nat.le_trans HB4.out hb5.size)
          clear hb5 H4 HB4
          cases hq : numP r2 with
          | none =>
            simp only [Option.isSome_none]
            have HE := hide (show res = .bad 3 from by rw [HRS2.out, HP3.out, hq])
            clear hq
            have ceq := (HM.out _ H5.out.2.below).errs.var 6 (by decide)
            go_wp2_with fail
            refine (breFail_any (gr := gr) (B0 := B0) HB5.out a 3 (i : Int)).mono ?_
            rintro e wf ⟨gf, rfl, hfi, hff⟩
            have HFi := hide (And.intro hfi (H5.out.2.trans hff))
            clear ceq hfi hff
            unfold faultV
            go_wp2_with fail
            refine ⟨rfl, ?_⟩
            exact cntB_bad HE.out ⟨gf, rfl, HFi.out.1, HFi.out.2⟩
          | some z =>
            simp only [Option.isSome_some]
            rw [numV_of hq]
            by_cases hle : x ≤ z
            · have g1 : decide ((x : Int) ≤ (z : Int)) = true := decide_eq_true (by omega)
              have HE := hide (show res = .yes x (z : Int) (f + 2) from by rw [HRS2.out, HP3.out, hq]; simp only [if_pos hle])
              clear hq
              go_wp2_with fail
              go_ret2
              exact cntB_yes HE.out H5.out.1 H5.out.2
            · have g1 : decide ((x : Int) ≤ (z : Int)) = false := decide_eq_false (by omega)
              have HE := hide (show res = .bad 3 from by rw [HRS2.out, HP3.out, hq]; simp only [if_neg hle])
              clear hq
              have ceq := (HM.out _ H5.out.2.below).errs.var 6 (by decide)
              go_wp2_with fail
              refine (breFail_any (gr := gr) (B0 := B0) HB5.out a 3 (i : Int)).mono ?_
              rintro e wf ⟨gf, rfl, hfi, hff⟩
              have HFi := hide (And.intro hfi (H5.out.2.trans hff))
              clear ceq hfi hff
              unfold faultV
              go_wp2_with fail
              refine ⟨rfl, ?_⟩
              exact cntB_bad HE.out ⟨gf, rfl, HFi.out.1, HFi.out.2⟩
end Go.Proofs.YtpkcklpjbeginaaGreatDoor

/-! ## BreC -/
namespace Go.Proofs.YtpkcklpjbeginaaGreatDoor
open Go.RowKit

/-- What a method of the basic reader does: it answers a tree in new memory, or gives up by panic. -/
def EPB (a : Nat → Addr) (gr B0 : Nat) (p : ByteArray) (fl : Int) (n : Nat) (y : World) (r : PR) (e : Ending) (y' : World) : Prop := match r with
  | .ok t j h => ∃ B c, e = .returned (.agg (t.hd.cells (.slice B t.subs.length c)).toArray) ∧ T.In y' (fun b => y.heap.size ≤ b ∧ b < y'.heap.size) t B ∧ RdB y' gr B0 p j fl h n ∧ RdF gr B0 none none y y'
  | .bad c pl => PanB a gr B0 c pl y e y'
section
variable {a : Nat → Addr} {gr B0 n : Nat} {p : ByteArray} {fl : Int} {y w w9 : World} {r : PR}
theorem bok {t : T} {j h c : Nat} {cur : Array Value} {B : Option Addr} (hr : r = .ok t j h) (hE : RdB w gr B0 p j fl h n) (hF : RdF gr B0 none none y w) (hT : T.In w (fun b => y.heap.size + 1 ≤ b ∧ b < w.heap.size ∧ (Value.slice none 0 0).ownBlock ≠ some b) t B)
    (hg : w.grownBy w9 (some y.heap.size)) (hR : Blk w y.heap.size 27 cur) (hB : B0 ≤ y.heap.size) : EPB a gr B0 p fl n y r (.returned (.agg (t.hd.cells (.slice B t.subs.length c)).toArray)) w9 := by
  subst hr
  obtain ⟨h1, h2, h3⟩ := rd_fin (x := none) hE hF hT hg hR (Nat.le_refl _) hB
  exact ⟨B, c, rfl, h3.same (Same.refl _ _) fun b hb => ⟨hb.1, hb.2.1⟩, h1, h2⟩
theorem bbad {c : Nat} {pl : Int} {e : Ending} (hr : r = .bad c pl) (h : PanB a gr B0 c pl y e w) : EPB a gr B0 p fl n y r e w := by subst hr; exact h
theorem PanB.from {a : Nat → Addr} {gr B0 c : Nat} {pl : Int} {y w w' : World} {e : Ending} (h : PanB a gr B0 c pl w e w') (hf : RdF gr B0 none none y w) : PanB a gr B0 c pl y e w' := by
  obtain ⟨gf, h1, h2, h3⟩ := h
  exact ⟨gf, h1, h2, hf.trans h3⟩
end
/-- The contract of group. -/
def GroupB (a : Nat → Addr) (m : Int) (gr B0 : Nat) (p : ByteArray) (fl : Int) (n : Nat) (deeper : Option (Nat → Nat → PR)) : Prop :=
  ∀ (y : World) (i g : Nat), RdB y gr B0 p (i + 2) fl g n → i + 2 ≤ p.size → g ≤ i → B0 ≤ y.heap.size → (∀ y', Below B0 y y' → B5 y' a m) → Calls Tryz.prog 150 #[.pointer (some ⟨gr, 0, none⟩), .int .i64 (i : Int)] y (EPB a gr B0 p fl n y (groupP p 2 deeper i g))
/-- What stands behind a backslash. -/
def escB (p : ByteArray) (ic : Bool) (deeper : Option (Nat → Nat → PR)) (i g : Nat) : PR := if i + 1 < p.size ∧ punct5 (pb p (i + 1)) = true then
      (if pb p (i + 1) = 40 then groupP p 2 deeper i g
       else if pb p (i + 1) = 41 then .bad 1 i
       else if pb p (i + 1) = 123 then .bad 8 i
       else if pb p (i + 1) = 125 then .bad 2 i
       else .ok (bytT (oneS ic (pb p (i + 1)))) (i + 2) g)
    else .bad 7 i
set_option maxRecDepth 100000 in
set_option maxHeartbeats 4000000 in
theorem breEscaped_any {y : World} {gr B0 : Nat} {p : ByteArray} {i k : Nat} {fl : Int} {g n : Nat} {a : Nat → Addr} {m : Int} {deeper : Option (Nat → Nat → PR)} (hG : GroupB a m gr B0 p fl n deeper) (h : RdB y gr B0 p k fl g n) (hk : k = i + 1) (hp : p.size ≤ 1024) (hi : i < p.size) (hgi : g ≤ i) (hB : B0 ≤ y.heap.size) (hm : ∀ y', Below B0 y y' → B5 y' a m) :
    Calls Tryz.prog 131 #[.pointer (some ⟨gr, 0, none⟩), .int .i64 (i : Int)] y (EPB a gr B0 p fl n y (escB p (!decide (bits .and .i64 fl 2 = 0)) deeper i g)) := by
  have HG := hide hG
  clear hG
  have hz0 := Blk.new y 27 zeroCells
  have hbel := (Below.refl y.heap.size y).alloc (Nat.le_refl _) (.cells zeroCells 27)
  have H0 := hide (And.intro (h.next hbel) (And.intro (RdF.of_below (gr := gr) (x := none) hB hbel) hz0))
  have HB := hide hB
  have HM := hide hm
  have HBW := hide (Nat.le_trans hB hbel.size)
  have HZW := hide (show y.heap.size + 1 ≤ (y.alloc (.cells zeroCells 27)).heap.size from Nat.le_of_eq (World.size_alloc y (.cells zeroCells 27)).symm)
  clear hz0 hbel h hB hm
  unfold zeroCells at *
  obtain ⟨ic, hic⟩ : ∃ ic, ic = !decide (bits .and .i64 fl 2 = 0) := ⟨_, rfl⟩
  rw [← hic]
  have HIC := hide hic
  clear hic
  obtain ⟨res, hres⟩ : ∃ res, res = escB p ic deeper i g := ⟨_, rfl⟩
  rw [← hres]
  unfold escB at hres
  rw [← hk] at hres
  have HRS := hide hres
  have HK := hide hk
  have hk2 : k ≤ 1024 := by omega
  clear hres hk
  have HNm := hide (fun (w : World) (hb : B5 w a m) => named5_ok a ⟨#[112, 117, 110, 99, 116]⟩ w (hb.errs.var 8 (by decide)))
  go_enter Tryz.func131, Tryz.ntmps131
  go_upto_region 1 with fail
  generalize (y.alloc (.cells #[.int .i64 0, .int .u64 0, .int .u64 0, .int .u64 0, .int .u64 0, .slice none 0 0, .int .i64 0, .int .i64 0, .int .i64 0, .bool false] 27)) = W at *
  go_wp2_with fail
  refine (HNm.out _ (HM.out _ H0.out.2.1.below)).mono ?_
  rintro e w1 ⟨rfl, hb1⟩
  rw [if_pos punct_some]
  obtain ⟨S, hS⟩ : ∃ S : Nat → Bool, S = memb5 ⟨#[112, 117, 110, 99, 116]⟩ := ⟨_, rfl⟩
  rw [← hS]
  have HS := hide hS
  have hb1' := hb1.trans ((Below.refl w1.heap.size w1).alloc (Nat.le_refl _) (.cells #[.int .u64 0, .int .u64 0, .int .u64 0, .int .u64 0] 24) |>.mono hb1.size)
  have H2 := hide (And.intro (H0.out.1.next hb1') (And.intro (H0.out.2.1.next HBW.out hb1') (And.intro (H0.out.2.2.next hb1') (Blk.new w1 24 #[.int .u64 0, .int .u64 0, .int .u64 0, .int .u64 0]))))
  have HZ2 := hide (Nat.lt_of_lt_of_le H0.out.2.2.lt hb1.size)
  have HB2 := hide (Nat.le_trans HBW.out hb1'.size)
  clear hS hb1 hb1' HNm
  have hlt2 := HZ2.out
  go_upto_region 2 with (refine wpList_store_set rfl _ _ rfl w1.heap.size _ _ rfl rfl H2.out.2.2.2 rfl ?_; intro w2 hrow_w2 hg_w2 hz_w2)
  have H3 := hide (And.intro (H2.out.1.grown hg_w2 (fun e => (blk_ne6 H2.out.2.2.2 H2.out.1.box (by decide)) (Option.some.inj e)) (.inr (H2.out.1.apart H2.out.2.2.2 (by decide)))) (And.intro (H2.out.2.1.grown hg_w2 (fun q hq => by rw [← Option.some.inj hq]; omega) HB.out) (And.intro (H2.out.2.2.1.grown hg_w2 (fun e => by have := Option.some.inj e; omega)) hrow_w2)))
  have HB3 := hide (show B0 ≤ w2.heap.size from Nat.le_trans HB2.out (Nat.le_of_eq hz_w2.symm))
  clear hg_w2 hz_w2 hrow_w2 hlt2 H2 HB2
  by_cases hi1 : k < p.size
  case neg =>
    have HE2 := hide (show res = .bad 7 (i : Int) from by rw [HRS.out, if_neg (fun hh => hi1 hh.1)])
    have g1 : decide ((p.size : Int) ≤ (k : Int)) = true := decide_eq_true (by omega)
    have q1 : decide (p.size ≤ k) = true := decide_eq_true (by omega)
    have c0 := H3.out.1.box.cell
    go_big_quiet (fail)
    have hbq := below_drewN6 (Below.refl w2.heap.size w2) nq
    have H4 := hide (And.intro (H3.out.1.next hbq) (And.intro (H3.out.2.1.next HB3.out hbq) (And.intro (H3.out.2.2.1.next hbq) (H3.out.2.2.2.next hbq))))
    have HB4 := hide (Nat.le_trans HB3.out hbq.size)
    clear c0 hbq
    generalize w2.drewN nq = w3 at *
    have ceq := (HM.out _ H4.out.2.1.below).errs.var 10 (by decide)
    go_wp2_with fail
    refine (breFail_any (gr := gr) (B0 := B0) HB4.out a 7 (i : Int)).mono ?_
    rintro e wf ⟨gf, rfl, hfi, hff⟩
    have HFi := hide (And.intro hfi (H4.out.2.1.trans hff))
    clear ceq hfi hff
    unfold faultV
    go_wp2_with fail
    refine ⟨rfl, ?_⟩
    exact bbad HE2.out ⟨gf, rfl, HFi.out.1, HFi.out.2⟩
  case pos =>
  have g1 : decide ((p.size : Int) ≤ (k : Int)) = false := decide_eq_false (by omega)
  have q1 : decide (p.size ≤ k) = false := decide_eq_false (by omega)
  obtain ⟨b, hb⟩ : ∃ b, b = pb p k := ⟨_, rfl⟩
  have hpb : (p[k]'hi1).toNat = b := by rw [hb, pb_at hi1]
  have hbl : b < 256 := by rw [hb]; exact pb_lt hi1
  rw [← hb] at HRS
  have HHs := hide (fun (x : Later w2) => has5_any S b hbl x.val)
  have cS := fun (x : Later w2) => (H3.out.2.2.2.next x.2).cell
  simp only [setC] at cS
  have c0 := fun (x : Later w2) => (H3.out.1.next x.2).box.cell
  unfold setV setC at HHs
  obtain ⟨sb, hsb⟩ : ∃ sb, sb = S b := ⟨_, rfl⟩
  rw [← hsb] at HHs
  have HSB := hide (show punct5 b = sb from by rw [hsb, HS.out]; rfl)
  clear hb hsb HS
  refine wp_region_later (by kernel_rfl) (by kernel_rfl) ?_
  repeat (go_big_quiet_step (with_reducible exact calls_later (HHs.out _)))
  refine wpQuiet_nil ?_
  intro w6 hw6
  obtain ⟨x, hxe⟩ := hw6
  have hbq : Below w2.heap.size w2 w6 := hxe ▸ x.2
  clear hxe x cS c0
  have H4 := hide (And.intro (H3.out.1.next hbq) (And.intro (H3.out.2.1.next HB3.out hbq) (And.intro (H3.out.2.2.1.next hbq) (H3.out.2.2.2.next hbq))))
  have HB4 := hide (Nat.le_trans HB3.out hbq.size)
  clear hbq HHs H3 HB3
  cases sb with
  | false =>
    have HE2 := hide (show res = .bad 7 (i : Int) from by rw [HRS.out, if_neg (fun hh => by have h2 := hh.2; rw [HSB.out] at h2; cases h2)])
    have ceq := (HM.out _ H4.out.2.1.below).errs.var 10 (by decide)
    go_wp2_with fail
    refine (breFail_any (gr := gr) (B0 := B0) HB4.out a 7 (i : Int)).mono ?_
    rintro e wf ⟨gf, rfl, hfi, hff⟩
    have HFi := hide (And.intro hfi (H4.out.2.1.trans hff))
    clear ceq hfi hff
    unfold faultV
    go_wp2_with fail
    refine ⟨rfl, ?_⟩
    exact bbad HE2.out ⟨gf, rfl, HFi.out.1, HFi.out.2⟩
  | true =>
  have HE2 := hide (HRS.out.trans (if_pos ⟨hi1, HSB.out⟩))
  have c4 := H4.out.1.box.cell
  go_upto_region 4 with fail
  go_big_quiet (fail)
  have hbq := below_drewN6 (Below.refl w6.heap.size w6) nq
  have H4b := hide (And.intro (H4.out.1.next hbq) (And.intro (H4.out.2.1.next HB4.out hbq) (H4.out.2.2.1.next hbq)))
  have HB4b := hide (Nat.le_trans HB4.out hbq.size)
  clear c4 hbq H4 HB4
  generalize w6.drewN nq = w7 at *
  have c4 := H4b.out.1.box.cell
  have f4 := H4b.out.1.box.frozen
  have HE1 := hide (show (k : Int) + 1 = ((i + 2 : Nat) : Int) from by rw [HK.out]; omega)
  go_upto_region 6 with fail
  rw [HE1.out]
  clear c4 f4
  have H5 := hide (And.intro (H4b.out.1.set 1 (.int .i64 ((i + 2 : Nat) : Int))) (And.intro (H4b.out.2.1.set H4b.out.1.base 1 (.int .i64 ((i + 2 : Nat) : Int))) (H4b.out.2.2.far (blk_ne6 H4b.out.2.2 H4b.out.1.box (by decide)) (p := ⟨gr, 1, none⟩) (.int .i64 ((i + 2 : Nat) : Int)))))
  have HB5 := hide (show B0 ≤ (w7.setCell ⟨gr, 1, none⟩ (.int .i64 ((i + 2 : Nat) : Int))).heap.size from by rw [World.size_setCell]; exact HB4b.out)
  generalize (w7.setCell ⟨gr, 1, none⟩ (.int .i64 ((i + 2 : Nat) : Int))) = w8 at *
  clear HRS g1 q1
  by_cases h40 : b = 40
  · have HE3 := hide (show res = groupP p 2 deeper i g from by rw [HE2.out, if_pos h40])
    have HGr := hide (HG.out w8 i g H5.out.1 (by have := HK.out; omega) hgi HB5.out (fun y' hy => HM.out y' (H5.out.2.1.below.trans hy)))
    subst h40
    clear HG
    go_wp2_with fail
    refine HGr.out.mono ?_
    intro e wg hz
    obtain ⟨r4, hr4⟩ : ∃ r4, r4 = groupP p 2 deeper i g := ⟨_, rfl⟩
    rw [← hr4] at hz HE3
    clear hr4 HGr
    cases r4 with
    | bad c pl =>
      have HPn := hide (PanB.from hz H5.out.2.1)
      obtain ⟨gf, rfl, hfi, hff⟩ := hz
      clear hfi hff
      unfold faultV
      go_wp2_with fail
      refine ⟨rfl, ?_⟩
      exact bbad HE3.out HPn.out
    | ok t j h =>
      obtain ⟨B, cc, rfl, hin, hE, hF⟩ := hz
      have H6 := hide (And.intro hE (And.intro (H5.out.2.1.trans hF) (hF.blk_ H5.out.2.2 (blk_ne6 H5.out.2.2 H5.out.1.box (by decide)) (by simp))))
      have HT := hide (show T.In wg (fun b => y.heap.size + 1 ≤ b ∧ b < wg.heap.size ∧ (Value.slice none 0 0).ownBlock ≠ some b) t B from hin.same (Same.refl _ _) fun b hb => ⟨by have h1 := hb.1; have h2 := H5.out.2.2.lt; omega, hb.2, fun e => by cases e⟩)
      clear hin hE hF
      go_wp2_with (refine wpList_store_node rfl _ _ rfl y.heap.size _ _ _ _ _ rfl rfl H6.out.2.2 rfl ?_; intro w9 hrow9 hg9 hz9)
      refine bodyPost_ret (node_result rfl _ _ y.heap.size _ _ rfl hrow9) rfl ?_
      exact bok (t := t) HE3.out H6.out.1 H6.out.2.1 HT.out hg9 H6.out.2.2 HB.out
  have g40 : ((b : Int) == 40) = false := by rw [beq_eq_false_iff_ne]; omega
  by_cases h41 : b = 41
  · have HE3 := hide (show res = .bad 1 (i : Int) from by rw [HE2.out, if_neg h40, if_pos h41])
    subst h41
    have ceq := (HM.out _ H5.out.2.1.below).errs.var 4 (by decide)
    go_wp2_with fail
    refine (breFail_any (gr := gr) (B0 := B0) HB5.out a 1 (i : Int)).mono ?_
    rintro e wf ⟨gf, rfl, hfi, hff⟩
    have HFi := hide (And.intro hfi (H5.out.2.1.trans hff))
    clear ceq hfi hff
    unfold faultV
    go_wp2_with fail
    refine ⟨rfl, ?_⟩
    exact bbad HE3.out ⟨gf, rfl, HFi.out.1, HFi.out.2⟩
  have g41 : ((b : Int) == 41) = false := by rw [beq_eq_false_iff_ne]; omega
  by_cases h123 : b = 123
  · have HE3 := hide (show res = .bad 8 (i : Int) from by rw [HE2.out, if_neg h40, if_neg h41, if_pos h123])
    subst h123
    have ceq := (HM.out _ H5.out.2.1.below).errs.var 11 (by decide)
    go_wp2_with fail
    refine (breFail_any (gr := gr) (B0 := B0) HB5.out a 8 (i : Int)).mono ?_
    rintro e wf ⟨gf, rfl, hfi, hff⟩
    have HFi := hide (And.intro hfi (H5.out.2.1.trans hff))
    clear ceq hfi hff
    unfold faultV
    go_wp2_with fail
    refine ⟨rfl, ?_⟩
    exact bbad HE3.out ⟨gf, rfl, HFi.out.1, HFi.out.2⟩
  have g123 : ((b : Int) == 123) = false := by rw [beq_eq_false_iff_ne]; omega
  by_cases h125 : b = 125
  · have HE3 := hide (show res = .bad 2 (i : Int) from by rw [HE2.out, if_neg h40, if_neg h41, if_neg h123, if_pos h125])
    subst h125
    have ceq := (HM.out _ H5.out.2.1.below).errs.var 5 (by decide)
    go_wp2_with fail
    refine (breFail_any (gr := gr) (B0 := B0) HB5.out a 2 (i : Int)).mono ?_
    rintro e wf ⟨gf, rfl, hfi, hff⟩
    have HFi := hide (And.intro hfi (H5.out.2.1.trans hff))
    clear ceq hfi hff
    unfold faultV
    go_wp2_with fail
    refine ⟨rfl, ?_⟩
    exact bbad HE3.out ⟨gf, rfl, HFi.out.1, HFi.out.2⟩
  have g125 : ((b : Int) == 125) = false := by rw [beq_eq_false_iff_ne]; omega
  have HE3 := hide (show res = .ok (bytT (oneS ic b)) (i + 2) g from by rw [HE2.out, if_neg h40, if_neg h41, if_neg h123, if_neg h125])
  have hone := breOne_any H5.out.1.box b hbl
  rw [← HIC.out] at hone
  have HO1 := hide hone
  clear hone
  go_wp2_with fail
  refine HO1.out.mono ?_
  rintro e wo ⟨rfl, hb6⟩
  have H7 := hide (And.intro (H5.out.1.next hb6) (And.intro (H5.out.2.1.next HB5.out hb6) (H5.out.2.2.next hb6)))
  clear hb6 HO1
  go_wp2_with (refine wpList_store_node rfl _ _ rfl y.heap.size _ _ _ _ _ rfl rfl H7.out.2.2 rfl ?_; intro w9 hrow9 hg9 hz9)
  refine bodyPost_ret (node_result rfl _ _ y.heap.size _ _ rfl hrow9) rfl ?_
  exact bok (t := bytT (oneS ic b)) HE3.out H7.out.1 H7.out.2.1 (T.In_iff.2 trivial) hg9 H7.out.2.2 HB.out
end Go.Proofs.YtpkcklpjbeginaaGreatDoor
