/- trawllaw07.BreRight: the law walked. (Printed by gen_law7.py.) -/
import Derived.Test.YtfehmfifjidjjaaDoorLives7
import Derived.Test.YtfehmfifjidjjaaDoorRightP7
set_option linter.unusedSimpArgs false
set_option linter.unusedVariables false
namespace Go.Proofs.YtfehmfifjidjjaaDoor
open Go.RowKit

theorem TL.tid_take {na k8 : Bool} {l : List T} {k : Nat} {s : T} {g : Int} (hs : l[k]? = some s) (h0 : 0 ≤ TL.tid na k8 (l.take k) g) : TL.tid na k8 (l.take (k + 1)) g = s.tid na (TL.tid na k8 (l.take k) g) k8 := by
  rw [List.take_add_one, hs]
  exact TL.tid_snoc na k8 (l.take k) s g h0
theorem TL.tid_stop {na k8 : Bool} : ∀ (l : List T) (k : Nat) (g : Int), TL.tid na k8 (l.take k) g < 0 → TL.tid na k8 l g = TL.tid na k8 (l.take k) g
  | [], k, g, h => by simp
  | t :: ts, 0, g, h => by
    simp only [List.take_zero, TL.tid] at h ⊢
    rw [if_neg (by omega)]
  | t :: ts, k + 1, g, h => by
    simp only [List.take_succ_cons, TL.tid] at h ⊢
    by_cases hg : 0 ≤ g
    · rw [if_pos hg] at h ⊢
      rw [if_pos hg]
      exact TL.tid_stop ts k _ h
    · rw [if_neg hg, if_neg hg]
mutual
theorem T.tid_bd (na : Bool) : ∀ (t : T) (g : Int) (r : Bool), -1 ≤ g → -1 ≤ t.tid na g r ∧ t.tid na g r ≤ g + t.nodes
  | .mk h l, g, r, hg => by
    rw [T.tid, T.nodes]
    split
    · omega
    · split
      · split
        · omega
        · have := TL.tid_bd na (h.kind == 8) l (g + 1) (by omega)
          omega
      · have := TL.tid_bd na (h.kind == 8) l g hg
        omega
theorem TL.tid_bd (na k8 : Bool) : ∀ (l : List T) (g : Int), -1 ≤ g → -1 ≤ TL.tid na k8 l g ∧ TL.tid na k8 l g ≤ g + TL.nodes l
  | [], g, hg => by rw [TL.tid, TL.nodes]; omega
  | t :: ts, g, hg => by
    rw [TL.tid, TL.nodes]
    split
    · have h1 := T.tid_bd na t g k8 hg
      have h2 := TL.tid_bd na k8 ts (t.tid na g k8) h1.1
      omega
    · omega
end
theorem TL.nodes_take (l : List T) (k : Nat) : TL.nodes (l.take k) ≤ TL.nodes l := by
  induction l generalizing k with
  | nil => simp [TL.nodes]
  | cons t ts ih => cases k with
    | zero => simp [TL.nodes]
    | succ k => simp only [List.take_succ_cons, TL.nodes]; have := ih k; omega
set_option maxRecDepth 100000 in
set_option maxHeartbeats 2000000 in
theorem tidy7_any (N : Nat) : ∀ (t : T) (A : Option Addr) (c : Nat) (w : World) (g : Int) (r : Bool), t.nodes ≤ N → -1 ≤ g ∧ g + t.nodes ≤ 1000000 → T.In w (· < w.heap.size) t A →
    Calls Tryd.prog 9 #[.agg (t.hd.cells (.slice A t.subs.length c)).toArray, .int .i64 g, .bool r] w fun e w' => e = .returned (.int .i64 (t.tid true g r)) ∧ Below w.heap.size w w' := by
  induction N with
  | zero => intro t A c w g r h; have := t.nodes_pos; omega
  | succ N ih =>
    intro t A c w g r hN hM hin
    obtain ⟨h, l⟩ := t
    have hlen0 := T.length_lt (T.mk h l)
    obtain ⟨kind, s0, s1, s2, s3, num, mn, mx, bare⟩ := h
    obtain ⟨res, hres⟩ : ∃ rr, rr = (T.mk ⟨kind, s0, s1, s2, s3, num, mn, mx, bare⟩ l).tid true g r := ⟨_, rfl⟩
    rw [← hres]
    rw [T.tid] at hres
    simp only [Bool.true_and] at hres
    simp only [T.nodes, T.hd, T.subs, Hd.cells] at hlen0 hN hM hres ⊢
    have hbel := (Below.refl w.heap.size w).alloc (Nat.le_refl _) (.cells #[.int .i64 kind, .int .u64 s0, .int .u64 s1, .int .u64 s2, .int .u64 s3, .slice A l.length c, .int .i64 num, .int .i64 mn, .int .i64 mx, .bool bare] 28)
    have hb0 := Blk.new w 28 #[.int .i64 kind, .int .u64 s0, .int .u64 s1, .int .u64 s2, .int .u64 s3, .slice A l.length c, .int .i64 num, .int .i64 mn, .int .i64 mx, .bool bare]
    have H0 := hide (And.intro hb0 hbel)
    have HIN := hide hin
    have HIH := hide (fun (s : T) (hs : s ∈ l) (B : Option Addr) (c' : Nat) (y : World) (g : Int) (r : Bool) (h1 : -1 ≤ g) (h2 : g + s.nodes ≤ 1000000) (hi : T.In y (· < y.heap.size) s B) => ih s B c' y g r (by have := TL.nodes_mem hs; omega) ⟨h1, h2⟩ hi)
    have HR := hide hres
    have c0 := hb0.cell
    have hll : l.length ≤ 1000000 := by omega
    clear ih hin hb0 hbel hres
    go_enter Tryd.func9, Tryd.ntmps9
    go_upto_region 1 with fail
    generalize (w.alloc (.cells #[.int .i64 kind, .int .u64 s0, .int .u64 s1, .int .u64 s2, .int .u64 s3, .slice A l.length c, .int .i64 num, .int .i64 mn, .int .i64 mx, .bool bare] 28)) = W at *
    by_cases k6 : kind = 6
    · subst k6
      have HE := hide (show res = -1 from by rw [HR.out]; simp)
      go_wp2_with fail
      refine bodyPost_ret (v := .int .i64 (-1)) (by simp [results, Tryd.results9, go_sem]) rfl ?_
      exact ⟨by rw [HE.out], H0.out.2⟩
    · have e6 : (kind == 6) = false := by simp [k6]
      cases bare with
      | true =>
        have HE := hide (show res = -1 from by rw [HR.out]; simp)
        go_wp2_with fail
        refine bodyPost_ret (v := .int .i64 (-1)) (by simp [results, Tryd.results9, go_sem]) rfl ?_
        exact ⟨by rw [HE.out], H0.out.2⟩
      | false =>
        by_cases hr8 : r = true ∧ kind = 8
        · obtain ⟨rfl, rfl⟩ := hr8
          have HE := hide (show res = -1 from by rw [HR.out]; simp)
          go_wp2_with fail
          refine bodyPost_ret (v := .int .i64 (-1)) (by simp [results, Tryd.results9, go_sem]) rfl ?_
          exact ⟨by rw [HE.out], H0.out.2⟩
        · have hcr : (r && kind == 8) = false := by
            cases r with
            | false => rfl
            | true =>
              have : ¬ kind = 8 := fun e => hr8 ⟨rfl, e⟩
              simp [this]
          have HR2 := hide (show res = (if kind = 7 then (if num ≠ g + 1 then -1 else TL.tid true (kind == 8) l (g + 1)) else TL.tid true (kind == 8) l g) from by rw [HR.out, e6, hcr]; rfl)
          go_cut [22] (fun z wx => z = .bool false ∧ wx = W)
          case first =>
            cases r with
            | false =>
              go_wp2_with fail
              go_meet
              case rel => exact ⟨rfl, rfl⟩
            | true =>
              have k8 : (kind == 8) = false := by simpa using hcr
              go_wp2_with fail
              go_meet
              case rel => exact ⟨rfl, rfl⟩
          case rest =>
          obtain ⟨hv8, hwc⟩ := hcut
          obtain rfl := hwc.symm
          subst hv8
          clear hcr hr8 HR
          by_cases k7 : kind = 7
          · by_cases hng : num = g + 1
            · have HR1 := hide (show res = TL.tid true (kind == 8) l (g + 1) from by rw [HR2.out, if_pos k7, if_neg (fun h => h hng)])
              obtain ⟨g1, hg1⟩ : ∃ g1, g1 = g + 1 := ⟨_, rfl⟩
              rw [← hg1] at HR1
              have e7 : (kind == 7) = true := by rw [k7]; rfl
              have en : (num != g + 1) = false := by rw [hng]; simp
              have HG1 := hide hg1
              have hgb : -1 ≤ g1 ∧ g1 + TL.nodes l ≤ 1000000 := by omega
              clear HR2 hng
              have HK7 := hide k7
              clear k7
              go_wp2_with fail
              rw [← HG1.out]
              clear e7 en hg1
              go_loopw [1, 7] (fun gv kv wr => ∃ (k : Nat) (cur : Int), kv = .int .i64 (k : Int) ∧ gv = .int .i64 cur ∧ k ≤ l.length ∧ cur = TL.tid true (kind == 8) (l.take k) g1 ∧ Blk wr w.heap.size 28 #[.int .i64 kind, .int .u64 s0, .int .u64 s1, .int .u64 s2, .int .u64 s3, .slice A l.length c, .int .i64 num, .int .i64 mn, .int .i64 mx, .bool false] ∧ Below w.heap.size w wr) (fun _ kv _ => l.length - (intOf kv).toNat)
              case atStart => exact ⟨0, g1, rfl, rfl, Nat.zero_le _, by simp [TL.tid], H0.out.1, H0.out.2⟩
              case round =>
                obtain ⟨k, cur, rfl, rfl, hk, hcur, hbx, hbel⟩ := hrel
                have HH := hide (And.intro hbx hbel)
                have HCu := hide hcur
                have hcb := TL.tid_bd true (kind == 8) (l.take k) g1 (by omega)
                rw [← hcur] at hcb
                have htn := TL.nodes_take l k
                have hzb0 := hbx.lt
                by_cases hlt : k < l.length
                case neg =>
                  have g1' : decide ((k : Int) < (l.length : Int)) = false := decide_eq_false (by omega)
                  have HE := hide (show cur = res from by rw [HR1.out, HCu.out, List.take_of_length_le (by omega)])
                  have c0 := hbx.cell
                  clear hbx hbel hcur
                  go_wp2_with fail
                  refine bodyPost_ret (v := .int .i64 cur) (by simp [results, Tryd.results9, go_sem]) rfl ?_
                  exact ⟨by rw [HE.out], HH.out.2⟩
                case pos =>
                  have g1' : decide ((k : Int) < (l.length : Int)) = true := decide_eq_true (by omega)
                  by_cases hneg : 0 ≤ cur
                  case neg =>
                    have g2 : decide (0 ≤ cur) = false := decide_eq_false hneg
                    have HE := hide (show cur = res from by rw [HR1.out, TL.tid_stop l k g1 (by rw [← HCu.out]; omega), HCu.out])
                    have c0 := hbx.cell
                    clear hbx hbel hcur
                    go_wp2_with fail
                    refine bodyPost_ret (v := .int .i64 cur) (by simp [results, Tryd.results9, go_sem]) rfl ?_
                    exact ⟨by rw [HE.out], HH.out.2⟩
                  case pos =>
                    have g2 : decide (0 ≤ cur) = true := decide_eq_true hneg
                    have hs := List.getElem?_eq_getElem hlt
                    obtain ⟨b, ofs, B, c', rfl, hbk, hcs, hsub⟩ := TL.In.at_ (T.In_iff.1 HIN.out) hs
                    have hmem := List.getElem_mem hlt
                    have HNx := hide (TL.tid_take (na := true) (k8 := kind == 8) (g := g1) hs (by rw [← hcur]; exact hneg))
                    rw [← hcur] at HNx
                    have htk := TL.nodes_take (l) (k + 1)
                    rw [List.take_add_one, hs] at htk
                    simp only [Option.toList_some, TL.nodes_snoc] at htk
                    have HX := hide (fun (x : Later wr) => HIH.out (l[k]'hlt) hmem B c' x.val cur (kind == 8) (by omega) (by omega) (hsub.next (hbel.trans (x.2.mono hbel.size))))
                    have hsn := TL.nodes_mem hmem
                    generalize l[k] = s at *
                    have nn := fun (x : Later wr) => (hcs.same (same_of_below (hbel.trans (x.2.mono hbel.size))) hbk).node
                    simp only [Hd.cells] at HX
                    have n0 := fun (x : Later wr) => (nn x).1
                    have n1 := fun (x : Later wr) => (nn x).2.1
                    have n2 := fun (x : Later wr) => (nn x).2.2.1
                    have n3 := fun (x : Later wr) => (nn x).2.2.2.1
                    have n4 := fun (x : Later wr) => (nn x).2.2.2.2.1
                    have n5 := fun (x : Later wr) => (nn x).2.2.2.2.2.1
                    have n6 := fun (x : Later wr) => (nn x).2.2.2.2.2.2.1
                    have n7 := fun (x : Later wr) => (nn x).2.2.2.2.2.2.2.1
                    have n8 := fun (x : Later wr) => (nn x).2.2.2.2.2.2.2.2.1
                    have n9 := fun (x : Later wr) => (nn x).2.2.2.2.2.2.2.2.2
                    have c0 := hbx.cell
                    clear nn hs hcs hmem hsub hcur hbx hbel
                    go_upto_region 10 with fail
                    clear c0
                    have c0 := fun (x : Later wr) => (HH.out.1.below x.2 hzb0).cell
                    refine wp_region_later (by kernel_rfl) (by kernel_rfl) ?_
                    repeat (go_big_quiet_step (exact calls_later (HX.out _)))
                    refine wpQuiet_nil ?_
                    intro w6 hw6
                    obtain ⟨x, hxe⟩ := hw6
                    have hx : Below wr.heap.size wr w6 := hxe ▸ x.2
                    have HB6 := hide (And.intro (HH.out.1.next hx) (HH.out.2.trans (hx.mono HH.out.2.size)))
                    clear hxe x hx n0 n1 n2 n3 n4 n5 n6 n7 n8 n9 c0 HX
                    go_wp2_with fail
                    go_roundw
                    case rel => exact ⟨k + 1, s.tid true cur (kind == 8), by go_num, rfl, hlt, HNx.out.symm, HB6.out.1, HB6.out.2⟩
                    case measure => simp [intOf]; omega
            · have HE := hide (show res = -1 from by rw [HR2.out, if_pos k7, if_pos hng])
              have e7 : (kind == 7) = true := by rw [k7]; rfl
              have en : (num != g + 1) = true := by rw [bne_iff_ne]; exact hng
              clear HR2 k7
              go_wp2_with fail
              refine bodyPost_ret (v := .int .i64 (-1)) (by simp [results, Tryd.results9, go_sem]) rfl ?_
              exact ⟨by rw [HE.out], H0.out.2⟩
          · have HR1 := hide (show res = TL.tid true (kind == 8) l g from by rw [HR2.out, if_neg k7])
            obtain ⟨g1, hg1⟩ : ∃ g1, g1 = g := ⟨_, rfl⟩
            rw [← hg1] at HR1
            subst hg1
            have e7 : (kind == 7) = false := by simp [k7]
            have hgb : -1 ≤ g1 ∧ g1 + TL.nodes l ≤ 1000000 := by omega
            clear HR2 k7
            go_wp2_with fail
            clear e7
            go_loopw [1, 7] (fun gv kv wr => ∃ (k : Nat) (cur : Int), kv = .int .i64 (k : Int) ∧ gv = .int .i64 cur ∧ k ≤ l.length ∧ cur = TL.tid true (kind == 8) (l.take k) g1 ∧ Blk wr w.heap.size 28 #[.int .i64 kind, .int .u64 s0, .int .u64 s1, .int .u64 s2, .int .u64 s3, .slice A l.length c, .int .i64 num, .int .i64 mn, .int .i64 mx, .bool false] ∧ Below w.heap.size w wr) (fun _ kv _ => l.length - (intOf kv).toNat)
            case atStart => exact ⟨0, g1, rfl, rfl, Nat.zero_le _, by simp [TL.tid], H0.out.1, H0.out.2⟩
            case round =>
              obtain ⟨k, cur, rfl, rfl, hk, hcur, hbx, hbel⟩ := hrel
              have HH := hide (And.intro hbx hbel)
              have HCu := hide hcur
              have hcb := TL.tid_bd true (kind == 8) (l.take k) g1 (by omega)
              rw [← hcur] at hcb
              have htn := TL.nodes_take l k
              have hzb0 := hbx.lt
              by_cases hlt : k < l.length
              case neg =>
                have g1' : decide ((k : Int) < (l.length : Int)) = false := decide_eq_false (by omega)
                have HE := hide (show cur = res from by rw [HR1.out, HCu.out, List.take_of_length_le (by omega)])
                have c0 := hbx.cell
                clear hbx hbel hcur
                go_wp2_with fail
                refine bodyPost_ret (v := .int .i64 cur) (by simp [results, Tryd.results9, go_sem]) rfl ?_
                exact ⟨by rw [HE.out], HH.out.2⟩
              case pos =>
                have g1' : decide ((k : Int) < (l.length : Int)) = true := decide_eq_true (by omega)
                by_cases hneg : 0 ≤ cur
                case neg =>
                  have g2 : decide (0 ≤ cur) = false := decide_eq_false hneg
                  have HE := hide (show cur = res from by rw [HR1.out, TL.tid_stop l k g1 (by rw [← HCu.out]; omega), HCu.out])
                  have c0 := hbx.cell
                  clear hbx hbel hcur
                  go_wp2_with fail
                  refine bodyPost_ret (v := .int .i64 cur) (by simp [results, Tryd.results9, go_sem]) rfl ?_
                  exact ⟨by rw [HE.out], HH.out.2⟩
                case pos =>
                  have g2 : decide (0 ≤ cur) = true := decide_eq_true hneg
                  have hs := List.getElem?_eq_getElem hlt
                  obtain ⟨b, ofs, B, c', rfl, hbk, hcs, hsub⟩ := TL.In.at_ (T.In_iff.1 HIN.out) hs
                  have hmem := List.getElem_mem hlt
                  have HNx := hide (TL.tid_take (na := true) (k8 := kind == 8) (g := g1) hs (by rw [← hcur]; exact hneg))
                  rw [← hcur] at HNx
                  have htk := TL.nodes_take (l) (k + 1)
                  rw [List.take_add_one, hs] at htk
                  simp only [Option.toList_some, TL.nodes_snoc] at htk
                  have HX := hide (fun (x : Later wr) => HIH.out (l[k]'hlt) hmem B c' x.val cur (kind == 8) (by omega) (by omega) (hsub.next (hbel.trans (x.2.mono hbel.size))))
                  have hsn := TL.nodes_mem hmem
                  generalize l[k] = s at *
                  have nn := fun (x : Later wr) => (hcs.same (same_of_below (hbel.trans (x.2.mono hbel.size))) hbk).node
                  simp only [Hd.cells] at HX
                  have n0 := fun (x : Later wr) => (nn x).1
                  have n1 := fun (x : Later wr) => (nn x).2.1
                  have n2 := fun (x : Later wr) => (nn x).2.2.1
                  have n3 := fun (x : Later wr) => (nn x).2.2.2.1
                  have n4 := fun (x : Later wr) => (nn x).2.2.2.2.1
                  have n5 := fun (x : Later wr) => (nn x).2.2.2.2.2.1
                  have n6 := fun (x : Later wr) => (nn x).2.2.2.2.2.2.1
                  have n7 := fun (x : Later wr) => (nn x).2.2.2.2.2.2.2.1
                  have n8 := fun (x : Later wr) => (nn x).2.2.2.2.2.2.2.2.1
                  have n9 := fun (x : Later wr) => (nn x).2.2.2.2.2.2.2.2.2
                  have c0 := hbx.cell
                  clear nn hs hcs hmem hsub hcur hbx hbel
                  go_upto_region 10 with fail
                  clear c0
                  have c0 := fun (x : Later wr) => (HH.out.1.below x.2 hzb0).cell
                  refine wp_region_later (by kernel_rfl) (by kernel_rfl) ?_
                  repeat (go_big_quiet_step (exact calls_later (HX.out _)))
                  refine wpQuiet_nil ?_
                  intro w6 hw6
                  obtain ⟨x, hxe⟩ := hw6
                  have hx : Below wr.heap.size wr w6 := hxe ▸ x.2
                  have HB6 := hide (And.intro (HH.out.1.next hx) (HH.out.2.trans (hx.mono HH.out.2.size)))
                  clear hxe x hx n0 n1 n2 n3 n4 n5 n6 n7 n8 n9 c0 HX
                  go_wp2_with fail
                  go_roundw
                  case rel => exact ⟨k + 1, s.tid true cur (kind == 8), by go_num, rfl, hlt, HNx.out.symm, HB6.out.1, HB6.out.2⟩
                  case measure => simp [intOf]; omega
set_option maxRecDepth 100000 in
set_option maxHeartbeats 2000000 in
theorem breRight_law (p : ByteArray) (fl : Int) (a : Nat → Addr) (m : Int) (w : World) (hB : B5 w a m) (hT : ErrT w) : Calls Tryd.prog 3 #[.string p, .int .i64 fl] w fun e w' => e = .returned (.bool true) ∧ Below w.heap.size w w' := by
  have HL := hide (lives7_true a m w hB hT)
  have HB := hide (fun (y : World) (h : Below w.heap.size w y) => hB.below h)
  have HT := hide (fun (y : World) (h : Below w.heap.size w y) => hT.below h)
  have hr := parseB_right p (!decide (bits .and .i64 fl 2 = 0)) (!decide (bits .and .i64 fl 4 = 0))
  have HP := hide (fun (y : World) (hy : B5 y a m) => breParse_any p fl a m y hy)
  obtain ⟨r, hrr⟩ : ∃ r, r = parseB p (!decide (bits .and .i64 fl 2 = 0)) (!decide (bits .and .i64 fl 4 = 0)) := ⟨_, rfl⟩
  rw [← hrr] at HP hr
  clear hB hT hrr
  go_enter Tryd.func3, Tryd.ntmps3
  go_wp2_with fail
  refine HL.out.mono ?_
  rintro e w1 ⟨rfl, hb1⟩
  have H1 := hide hb1
  clear hb1 HL
  go_wp2_with fail
  refine (HP.out w1 (HB.out _ H1.out)).mono ?_
  rintro e w2 hz
  cases r with
  | bad c pl =>
    obtain ⟨gf, rfl, hfi, hb2⟩ := hz
    obtain ⟨hp0, hp1⟩ := hr
    have hal := hb2.trans ((Below.refl w2.heap.size w2).alloc (Nat.le_refl _) (.cells zeroCells 28) |>.mono hb2.size)
    have H3 := hide (And.intro (H1.out.trans (hal.mono H1.out.size)) (And.intro (Blk.next hfi ((Below.refl w2.heap.size w2).alloc (Nat.le_refl _) (.cells zeroCells 28))) (Blk.new w2 28 zeroCells)))
    clear hfi hb2 hal HP
    unfold zeroCells at *
    have hn0 := fun w => run_neq_iface_nil (P := Tryd.prog) (w := w) 30 (by kernel_rfl) 50 (.pointer (some ⟨gf, 0, none⟩))
    unfold faultV
    go_upto_region 4 with fail
    generalize (w2.alloc (.cells #[.int .i64 0, .int .u64 0, .int .u64 0, .int .u64 0, .int .u64 0, .slice none 0 0, .int .i64 0, .int .i64 0, .int .i64 0, .bool false] 28)) = w3 at *
    generalize w2.heap.size = g5 at *
    have HPl := hide (place_fault gf pl _ w3 (HT.out _ H3.out.1) H3.out.2.1)
    go_wp2_with fail
    refine HPl.out.mono ?_
    rintro e w4 ⟨rfl, hb4⟩
    have H4 := hide (And.intro (H3.out.1.trans (hb4.mono H3.out.1.size)) (H3.out.2.2.next hb4))
    have c4 := H4.out.2.cell
    have g1 : decide (0 ≤ pl) = true := decide_eq_true hp0
    have g2 : decide (pl ≤ (p.size : Int)) = true := decide_eq_true hp1
    clear hb4 HPl hn0
    go_wp2_with fail
    go_ret
    exact ⟨rfl, H4.out.1⟩
  | ok t j g =>
    obtain ⟨B, c', rfl, hown, hb2⟩ := hz
    obtain ⟨hp0, hck, htd, hg, hnd⟩ := hr
    have hal := (Below.refl w2.heap.size w2).alloc (Nat.le_refl _) (.cells #[.int .i64 0, .int .u64 0, .int .u64 0, .int .u64 0, .int .u64 0, .slice none 0 0, .int .i64 0, .int .i64 0, .int .i64 0, .bool false] 28)
    have HA := hide (And.intro (H1.out.trans ((hb2.trans (hal.mono hb2.size)).mono H1.out.size)) (And.intro (Blk.new w2 28 #[.int .i64 0, .int .u64 0, .int .u64 0, .int .u64 0, .int .u64 0, .slice none 0 0, .int .i64 0, .int .i64 0, .int .i64 0, .bool false]) hal))
    have hnew := HA.out.2.1
    have HOW := hide hown
    have HZ2 := hide (Nat.le_trans H1.out.size hb2.size)
    clear hb2 hown HP hal
    go_upto_region 4 with (refine wpList_store_node rfl _ _ rfl w2.heap.size _ _ _ _ _ rfl rfl hnew rfl ?_; intro w3 hrow_w3 hg_w3 hz_w3)
    have hin : T.In w3 (· < w3.heap.size) t B := by
      obtain ⟨bs, h1, h2, h3⟩ := HOW.out
      have h4 := h1.same (w' := w3) (fun b hb => (hg_w3.block b (by rw [World.size_alloc]; have := (h3 b hb).2; omega) (fun e => by have := Option.some.inj e; have := (h3 b hb).2; omega)).trans (HA.out.2.2.block b (h3 b hb).2))
      exact h4.in_ fun b hb => by have h5 := (h3 b hb).2; have h6 := HA.out.2.2.size; have h7 := hg_w3.size; omega
    have hb3 := below_grew HA.out.1 hg_w3 (Nat.le_refl _) (fun q hq => by rw [← Option.some.inj hq]; exact HZ2.out)
    have H3 := hide (And.intro hb3 (And.intro hrow_w3 hin))
    clear hg_w3 hrow_w3 hz_w3 hnew hin hb3 HA
    have HCk := hide (fun (y : World) (hy : Below w3.heap.size w3 y) => show Calls Tryd.prog 8 #[.agg (t.hd.cells (.slice B t.subs.length c')).toArray] y fun e w' => e = .returned .nilIface ∧ Below y.heap.size y w' from by
      have h1 := check_any t B c' y a (by omega) (H3.out.2.2.next hy) ((HB.out _ (H3.out.1.trans (hy.mono H3.out.1.size))).errs.sent _ (by decide))
      rw [hck] at h1
      exact h1)
    have HTd := hide (fun (y : World) (hy : Below w3.heap.size w3 y) => show Calls Tryd.prog 9 #[.agg (t.hd.cells (.slice B t.subs.length c')).toArray, .int .i64 0, .bool false] y fun e w' => e = .returned (.int .i64 (g : Int)) ∧ Below y.heap.size y w' from by
      have h1 := tidy7_any t.nodes t B c' y 0 false (Nat.le_refl _) ⟨by omega, by omega⟩ (H3.out.2.2.next hy)
      rw [htd] at h1
      exact h1)
    have hn0 := fun w => run_neq_nil_nil_at (P := Tryd.prog) (w := w) 30 (by kernel_rfl)
    have hn1 := fun w => run_eql_nil_nil_at (P := Tryd.prog) (w := w) 30 (by kernel_rfl)
    have g1 : decide ((p.size : Int) ≤ 1024) = true := decide_eq_true (by omega)
    have c3 := H3.out.2.1.cell
    simp only [Hd.cells] at c3 HCk HTd
    clear hck htd
    go_wp2_with fail
    refine (HCk.out w3 (Below.refl _ _)).mono ?_
    rintro e w4 ⟨rfl, hb4⟩
    have H4 := hide hb4
    have c4 := (H3.out.2.1.next hb4).cell
    simp only [Hd.cells] at c4
    clear hb4 c3 HCk
    go_wp2_with fail
    refine (HTd.out w4 H4.out).mono ?_
    rintro e w5 ⟨rfl, hb5⟩
    have H5 := hide (H3.out.1.trans ((H4.out.trans (hb5.mono H4.out.size)).mono H3.out.1.size))
    clear hb5 c4 HTd
    go_wp2_with fail
    go_ret
    exact ⟨rfl, H5.out⟩
end Go.Proofs.YtfehmfifjidjjaaDoor
