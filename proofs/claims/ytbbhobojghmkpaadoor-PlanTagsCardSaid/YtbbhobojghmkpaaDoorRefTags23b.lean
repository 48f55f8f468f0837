/- RefTags23: trawlref23.Has, many, Nothing: the document's answers are the program's. (Printed by gen_reftags23.py.)
RefTags23b: trawlref23.sum, trawlref23.Tags: the document's tags are the program's. (Printed by gen_reftags23b.py.) -/
import Derived.Test.YtbbhobojghmkpaaDoorLives23
import Derived.Test.YtbbhobojghmkpaaDoorRefNext20
set_option linter.unusedSimpArgs false
set_option linter.unusedVariables false
set_option linter.unnecessarySimpa false

/-! ## RefTags23 -/
namespace Go.Proofs.YtbbhobojghmkpaaDoor
open Go.RowKit

set_option maxRecDepth 100000 in
set_option maxHeartbeats 2000000 in
theorem refHas23_any (N : Nat) : ∀ (t : T) (A : Option Addr) (c : Nat) (w : World) (d : Nat), t.nodes ≤ N → N ≤ 1000000 → t.form = true → T.In w (· < w.heap.size) t A →
    Calls Tryd.prog 63 #[.agg (t.hd.cells (.slice A t.subs.length c)).toArray, .int .i64 (d : Int)] w fun e w' => e = .returned (.bool (t.kb.testBit d)) ∧ Below w.heap.size w w' := by
  induction N with
  | zero => intro t A c w d h; have := t.nodes_pos; omega
  | succ N ih =>
    intro t A c w d hN hM hf hin
    have hkind := T.form_kind hf
    have hfs := T.form_mem_sub hf
    obtain ⟨h, l⟩ := t
    have hlen0 := T.length_lt (T.mk h l)
    obtain ⟨res, hres⟩ : ∃ r, r = (T.mk h l).kb.testBit d := ⟨_, rfl⟩
    rw [← hres]
    rw [T.kb] at hres
    obtain ⟨kind, s0, s1, s2, s3, num, mn, mx, bare⟩ := h
    simp only [T.nodes, T.hd, T.subs, Hd.cells] at hlen0 hN hkind hfs hres ⊢
    obtain ⟨q, rfl⟩ : ∃ q : Nat, kind = (q : Int) := ⟨kind.toNat, by omega⟩
    rw [Int.toNat_natCast, Nat.testBit_or] at hres
    have hbel := (Below.refl w.heap.size w).alloc (Nat.le_refl _) (.cells #[.int .i64 (q : Int), .int .u64 s0, .int .u64 s1, .int .u64 s2, .int .u64 s3, .slice A l.length c, .int .i64 num, .int .i64 mn, .int .i64 mx, .bool bare] 27)
    have hb0 := Blk.new w 27 #[.int .i64 (q : Int), .int .u64 s0, .int .u64 s1, .int .u64 s2, .int .u64 s3, .slice A l.length c, .int .i64 num, .int .i64 mn, .int .i64 mx, .bool bare]
    have H0 := hide (And.intro hb0 hbel)
    have hin2 := hin.next hbel
    have c0 := hb0.cell
    have HIH := hide (fun (s : T) (hs : s ∈ l) (B : Option Addr) (c' : Nat) (y : World) (hi : T.In y (· < y.heap.size) s B) => ih s B c' y d (by have := TL.nodes_mem hs; omega) (by omega) (hfs s hs) hi)
    clear ih hf hin hfs hb0 hbel hkind
    go_enter Tryd.func63, Tryd.ntmps63
    go_upto_region 1 with fail
    generalize (w.alloc (.cells #[.int .i64 (q : Int), .int .u64 s0, .int .u64 s1, .int .u64 s2, .int .u64 s3, .slice A l.length c, .int .i64 num, .int .i64 mn, .int .i64 mx, .bool bare] 27)) = W at *
    by_cases hqd : q = d
    · subst hqd
      have HE := hide (show res = true by rw [hres, Nat.testBit_two_pow_self]; rfl)
      clear hres
      go_wp2_with fail
      refine bodyPost_ret (v := .bool true) (by simp [results, Tryd.results63, go_sem]) rfl ?_
      exact ⟨by rw [HE.out], H0.out.2⟩
    · have hqi : ((q : Int) == (d : Int)) = false := by rw [beq_eq_false_iff_ne]; omega
      have HR := hide (show res = (TL.kb l).testBit d by rw [hres, Nat.testBit_two_pow_of_ne hqd]; rfl)
      have hqn : ¬ q = d := hqd
      clear hres
      go_wp2_with fail
      have HIN := hide hin2
      clear hin2 c0
      go_loopw [5, 6] (fun kv ov wr => ∃ k : Nat, kv = .int .i64 (k : Int) ∧ k ≤ l.length ∧ (TL.kb (l.drop k)).testBit d = res ∧ Blk wr w.heap.size 27 #[.int .i64 (q : Int), .int .u64 s0, .int .u64 s1, .int .u64 s2, .int .u64 s3, .slice A l.length c, .int .i64 num, .int .i64 mn, .int .i64 mx, .bool bare] ∧ Below W.heap.size W wr) (fun kv _ _ => l.length - (intOf kv).toNat)
      case atStart => exact ⟨0, rfl, Nat.zero_le _, by rw [List.drop_zero, ← HR.out], H0.out.1, Below.refl _ _⟩
      case round =>
        obtain ⟨k, rfl, hk, hinv, hbx, hbel⟩ := hrel
        have HH := hide (And.intro hbx hbel)
        have HV := hide hinv
        have hzb0 := hbx.lt
        have c0 := hbx.cell
        clear hinv
        by_cases hlt : k < l.length
        case neg =>
          have g1 : decide ((k : Int) < (l.length : Int)) = false := decide_eq_false (by omega)
          have hke : k = l.length := by omega
          subst hke
          have HE := hide (show res = false by rw [← HV.out, List.drop_eq_nil_of_le (Nat.le_refl _), TL.kb, Nat.zero_testBit])
          clear hbx hbel
          go_wp2_with fail
          refine bodyPost_ret (v := .bool false) (by simp [results, Tryd.results63, go_sem]) rfl ?_
          exact ⟨by rw [HE.out], H0.out.2.trans (HH.out.2.mono H0.out.2.size)⟩
        case pos =>
          have g1 : decide ((k : Int) < (l.length : Int)) = true := decide_eq_true (by omega)
          have hs := List.getElem?_eq_getElem hlt
          obtain ⟨b, ofs, B, c', rfl, hbk, hcs, hsub⟩ := TL.In.at_ (T.In_iff.1 HIN.out) hs
          have hmem := List.getElem_mem hlt
          have hdrop : l.drop k = l[k] :: l.drop (k + 1) := List.drop_eq_getElem_cons hlt
          have heq := HV.out
          have HX := hide (HIH.out (l[k]'hlt) hmem B c' wr (hsub.next hbel))
          rw [hdrop, TL.kb, Nat.testBit_or] at heq
          generalize l[k] = s at *
          obtain ⟨n0, n1, n2, n3, n4, n5, n6, n7, n8, n9⟩ := (hcs.same (same_of_below hbel) hbk).node
          have HQ := hide heq
          simp only [Hd.cells] at HX
          clear hs hcs heq hdrop hmem hsub HV hbx hbel
          go_wp2_with fail
          refine HX.out.mono ?_
          rintro e w6 ⟨rfl, hb6⟩
          have HH6 := hide (And.intro (HH.out.1.next hb6) (HH.out.2.trans (hb6.mono HH.out.2.size)))
          clear hb6 HX HH c0 n0 n1 n2 n3 n4 n5 n6 n7 n8 n9
          generalize s.kb.testBit d = sb at *
          cases sb with
          | true =>
            have HE := hide (show res = true by rw [← HQ.out]; rfl)
            go_wp2_with fail
            refine bodyPost_ret (v := .bool true) (by simp [results, Tryd.results63, go_sem]) rfl ?_
            exact ⟨by rw [HE.out], H0.out.2.trans (HH6.out.2.mono H0.out.2.size)⟩
          | false =>
            have HE := hide (show (TL.kb (l.drop (k + 1))).testBit d = res by rw [← HQ.out]; rfl)
            go_wp2_with fail
            go_roundw
            case rel => exact ⟨k + 1, by go_num, hlt, HE.out, HH6.out.1, HH6.out.2⟩
            case measure => simp [intOf]; omega
theorem TL.noths_len : ∀ l : List T, (TL.noths l).length = l.length
  | [] => rfl
  | t :: r => by simp [TL.noths, TL.noths_len r]
theorem count_any' (l : List Bool) : decide (0 < ((l.count true : Nat) : Int)) = l.any id := by
  induction l with
  | nil => rfl
  | cons b r ih =>
    cases b with
    | false => simpa using ih
    | true => simp
theorem count_all' (l : List Bool) : decide (((l.count true : Nat) : Int) = (l.length : Int)) = l.all id := by
  have h := List.count_eq_length (a := true) (l := l)
  cases hb : l.all id with
  | true =>
    refine decide_eq_true ?_
    have : l.count true = l.length := h.2 fun b hm => by have := List.all_eq_true.1 hb b hm; simpa using this.symm
    omega
  | false =>
    refine decide_eq_false fun e => ?_
    have e2 := h.1 (by omega)
    rw [List.all_eq_true.2 (fun b hm => by have := e2 b hm; simpa using this.symm)] at hb
    cases hb
set_option maxRecDepth 100000 in
set_option maxHeartbeats 2000000 in
theorem many_of (l : List T) (A : Option Addr) (c : Nat) (w : World) (hl : l.length ≤ 1000000) (hin : TL.In w (· < w.heap.size) l A)
    (HI0 : ∀ s ∈ l, ∀ (B : Option Addr) (c' : Nat) (y : World), T.In y (· < y.heap.size) s B → Calls Tryd.prog 64 #[.agg (s.hd.cells (.slice B s.subs.length c')).toArray] y fun e y' => e = .returned (.bool s.nothing) ∧ Below y.heap.size y y') :
    Calls Tryd.prog 100 #[.slice A l.length c] w fun e w' => e = .returned (.int .i64 (((TL.noths l).count true : Nat) : Int)) ∧ Below w.heap.size w w' := by
  obtain ⟨res, hres⟩ : ∃ r, r = (TL.noths l).count true := ⟨_, rfl⟩
  rw [← hres]
  have HR := hide hres
  have HIH := hide HI0
  have HIN := hide hin
  clear hres HI0 hin
  go_enter Tryd.func100, Tryd.ntmps100
  go_wp2_with fail
  go_loopw [3, 4, 5] (fun nv kv ov wr => ∃ k n : Nat, nv = .int .i64 (n : Int) ∧ kv = .int .i64 (k : Int) ∧ k ≤ l.length ∧ n ≤ k ∧ n + (TL.noths (l.drop k)).count true = res ∧ Below w.heap.size w wr) (fun _ kv _ _ => l.length - (intOf kv).toNat)
  case atStart => exact ⟨0, 0, rfl, rfl, Nat.zero_le _, Nat.le_refl _, by rw [List.drop_zero, ← HR.out, Nat.zero_add], Below.refl _ _⟩
  case round =>
    obtain ⟨k, n, rfl, rfl, hk, hnk, hinv, hbel⟩ := hrel
    have HH := hide hbel
    have HV := hide hinv
    clear hinv
    by_cases hlt : k < l.length
    case neg =>
      have g1 : decide ((k : Int) < (l.length : Int)) = false := decide_eq_false (by omega)
      have hke : k = l.length := by omega
      subst hke
      have HE := hide (show n = res by rw [← HV.out, List.drop_eq_nil_of_le (Nat.le_refl _)]; rfl)
      clear hbel
      go_wp2_with fail
      refine bodyPost_ret (v := .int .i64 (n : Int)) (by simp [results, Tryd.results100, go_sem]) rfl ?_
      exact ⟨by rw [HE.out], HH.out⟩
    case pos =>
      have g1 : decide ((k : Int) < (l.length : Int)) = true := decide_eq_true (by omega)
      have hs := List.getElem?_eq_getElem hlt
      obtain ⟨b, ofs, B, c', rfl, hbk, hcs, hsub⟩ := TL.In.at_ HIN.out hs
      have hmem := List.getElem_mem hlt
      have hdrop : l.drop k = l[k] :: l.drop (k + 1) := List.drop_eq_getElem_cons hlt
      have heq := HV.out
      have HX := hide (HIH.out (l[k]'hlt) hmem B c' wr (hsub.next hbel))
      rw [hdrop, TL.noths, List.count_cons] at heq
      generalize l[k] = s at *
      obtain ⟨n0, n1, n2, n3, n4, n5, n6, n7, n8, n9⟩ := (hcs.same (same_of_below hbel) hbk).node
      have HQ := hide heq
      simp only [Hd.cells] at HX
      clear hs hcs heq hdrop hmem hsub HV hbel
      go_wp2_with fail
      refine HX.out.mono ?_
      rintro e w6 ⟨rfl, hb6⟩
      have HH6 := hide (HH.out.trans (hb6.mono HH.out.size))
      clear hb6 HX HH n0 n1 n2 n3 n4 n5 n6 n7 n8 n9
      generalize s.nothing = sn at *
      cases sn with
      | true =>
        have HE := hide (show (n + 1) + (TL.noths (l.drop (k + 1))).count true = res by rw [← HQ.out]; simp; omega)
        go_wp2_with fail
        go_roundw
        case rel => exact ⟨k + 1, n + 1, by go_num, by go_num, hlt, by omega, HE.out, HH6.out⟩
        case measure => simp [intOf]; omega
      | false =>
        have HE := hide (show n + (TL.noths (l.drop (k + 1))).count true = res by rw [← HQ.out]; simp)
        go_wp2_with fail
        go_roundw
        case rel => exact ⟨k + 1, n, rfl, by go_num, hlt, by omega, HE.out, HH6.out⟩
        case measure => simp [intOf]; omega
set_option maxRecDepth 100000 in
set_option maxHeartbeats 2000000 in
theorem refNothing_any (N : Nat) : ∀ (t : T) (A : Option Addr) (c : Nat) (w : World), t.nodes ≤ N → N ≤ 1000000 → t.form = true → t.wf → T.In w (· < w.heap.size) t A →
    Calls Tryd.prog 64 #[.agg (t.hd.cells (.slice A t.subs.length c)).toArray] w fun e w' => e = .returned (.bool t.nothing) ∧ Below w.heap.size w w' := by
  induction N with
  | zero => intro t A c w h; have := t.nodes_pos; omega
  | succ N ih =>
    intro t A c w hN hM hf hwf hin
    have hkind := T.form_kind hf
    have hfs := T.form_mem_sub hf
    have hws := T.wf_sub hwf
    have hmin := fun hk => T.form_min (h := t.hd) (l := t.subs) (by rw [T.eta]; exact hf) hk
    obtain ⟨h, l⟩ := t
    have hlen0 := T.length_lt (T.mk h l)
    obtain ⟨res, hres⟩ : ∃ r, r = (T.mk h l).nothing := ⟨_, rfl⟩
    rw [← hres]
    rw [T.nothing] at hres
    obtain ⟨kind, s0, s1, s2, s3, num, mn, mx, bare⟩ := h
    simp only [T.nodes, T.hd, T.subs, Hd.cells] at hlen0 hN hkind hfs hws hmin ⊢
    have hca := count_any' (TL.noths l)
    have hcl := count_all' (TL.noths l)
    have hcle := List.count_le_length (a := true) (l := TL.noths l)
    rw [TL.noths_len] at hcl hcle
    have hbel := (Below.refl w.heap.size w).alloc (Nat.le_refl _) (.cells #[.int .i64 kind, .int .u64 s0, .int .u64 s1, .int .u64 s2, .int .u64 s3, .slice A l.length c, .int .i64 num, .int .i64 mn, .int .i64 mx, .bool bare] 27)
    have hb0 := Blk.new w 27 #[.int .i64 kind, .int .u64 s0, .int .u64 s1, .int .u64 s2, .int .u64 s3, .slice A l.length c, .int .i64 num, .int .i64 mn, .int .i64 mx, .bool bare]
    have H0 := hide (And.intro hb0 hbel)
    have hin2 := hin.next hbel
    have c0 := hb0.cell
    have HIH := fun (s : T) (hs : s ∈ l) (B : Option Addr) (c' : Nat) (y : World) (hi : T.In y (· < y.heap.size) s B) => ih s B c' y (by have := TL.nodes_mem hs; omega) (by omega) (hfs s hs) (hws s hs) hi
    have HM := hide (many_of l A c _ (by omega) (T.In_iff.1 hin2) HIH)
    clear ih hf hwf hin hfs hws hb0 hbel hin2 HIH
    have hnk : nothK ⟨kind, s0, s1, s2, s3, num, mn, mx, bare⟩ (TL.noths l) = if kind = 2 then (s0 == 0 && s1 == 0 && s2 == 0 && s3 == 0) else if kind = 6 then decide (((List.count true (TL.noths l) : Nat) : Int) = (l.length : Int)) else if kind = 8 then (if mn = 0 then false else decide (0 < ((List.count true (TL.noths l) : Nat) : Int))) else if kind = 5 ∨ kind = 7 then decide (0 < ((List.count true (TL.noths l) : Nat) : Int)) else false := by
      rw [hca, hcl]; rfl
    rw [hnk] at hres
    clear hnk hca hcl
    generalize List.count true (TL.noths l) = n at *
    have HR := hide hres
    clear hres
    go_enter Tryd.func64, Tryd.ntmps64
    go_upto_region 1 with fail
    generalize (w.alloc (.cells #[.int .i64 kind, .int .u64 s0, .int .u64 s1, .int .u64 s2, .int .u64 s3, .slice A l.length c, .int .i64 num, .int .i64 mn, .int .i64 mx, .bool bare] 27)) = W at *
    go_wp2_with fail
    refine HM.out.mono ?_
    rintro e w1 ⟨rfl, hb⟩
    have H1 := hide (And.intro (H0.out.1.next hb) (H0.out.2.trans (hb.mono H0.out.2.size)))
    clear hb HM c0 H0
    have c0 := H1.out.1.cell
    have hes := fun W => run_eql_set W s0 s1 s2 s3 0 0 0 0
    rcases hkind with hk | hk | hk | hk | hk | hk | ⟨hk, hl1⟩ | ⟨hk, hl1⟩
    · subst hk
      have HE := hide (show res = false from HR.out)
      go_wp2_with fail
      refine bodyPost_ret (v := .bool false) (by simp [results, Tryd.results64, go_sem]) rfl ?_
      exact ⟨by rw [HE.out], H1.out.2⟩
    · subst hk
      have HE := hide (show res = false from HR.out)
      go_wp2_with fail
      refine bodyPost_ret (v := .bool false) (by simp [results, Tryd.results64, go_sem]) rfl ?_
      exact ⟨by rw [HE.out], H1.out.2⟩
    · subst hk
      have HE := hide (show res = false from HR.out)
      go_wp2_with fail
      refine bodyPost_ret (v := .bool false) (by simp [results, Tryd.results64, go_sem]) rfl ?_
      exact ⟨by rw [HE.out], H1.out.2⟩
    · subst hk
      have HE := hide (show res = (s0 == 0 && s1 == 0 && s2 == 0 && s3 == 0) from HR.out)
      go_wp2_with fail
      refine bodyPost_ret (v := .bool (s0 == 0 && s1 == 0 && s2 == 0 && s3 == 0)) (by simp [results, Tryd.results64, go_sem]) rfl ?_
      exact ⟨by rw [HE.out], H1.out.2⟩
    · subst hk
      by_cases hp : 0 < n
      · have d1 : decide ((0 : Int) < (n : Int)) = true := decide_eq_true (by omega)
        have HE := hide (show res = true from HR.out.trans d1)
        go_wp2_with fail
        refine bodyPost_ret (v := .bool true) (by simp [results, Tryd.results64, go_sem, hp]) rfl ?_
        exact ⟨by rw [HE.out], H1.out.2⟩
      · have d1 : decide ((0 : Int) < (n : Int)) = false := decide_eq_false (by omega)
        have HE := hide (show res = false from HR.out.trans d1)
        go_wp2_with fail
        refine bodyPost_ret (v := .bool false) (by simp [results, Tryd.results64, go_sem, hp]) rfl ?_
        exact ⟨by rw [HE.out], H1.out.2⟩
    · subst hk
      by_cases hp : n = l.length
      · have d1 : decide ((n : Int) = (l.length : Int)) = true := decide_eq_true (by omega)
        have d2 : ((n : Int) == (l.length : Int)) = true := by rw [beq_iff_eq]; omega
        have HE := hide (show res = true from HR.out.trans d1)
        go_wp2_with fail
        refine bodyPost_ret (v := .bool true) (by simp [results, Tryd.results64, go_sem, hp]) rfl ?_
        exact ⟨by rw [HE.out], H1.out.2⟩
      · have d1 : decide ((n : Int) = (l.length : Int)) = false := decide_eq_false (by omega)
        have d2 : ((n : Int) == (l.length : Int)) = false := by rw [beq_eq_false_iff_ne]; omega
        have HE := hide (show res = false from HR.out.trans d1)
        go_wp2_with fail
        refine bodyPost_ret (v := .bool false) (by simp [results, Tryd.results64, go_sem, hp]) rfl ?_
        exact ⟨by rw [HE.out], H1.out.2⟩
    · subst hk
      clear hl1
      by_cases hp : 0 < n
      · have d1 : decide ((0 : Int) < (n : Int)) = true := decide_eq_true (by omega)
        have HE := hide (show res = true from HR.out.trans d1)
        go_wp2_with fail
        refine bodyPost_ret (v := .bool true) (by simp [results, Tryd.results64, go_sem, hp]) rfl ?_
        exact ⟨by rw [HE.out], H1.out.2⟩
      · have d1 : decide ((0 : Int) < (n : Int)) = false := decide_eq_false (by omega)
        have HE := hide (show res = false from HR.out.trans d1)
        go_wp2_with fail
        refine bodyPost_ret (v := .bool false) (by simp [results, Tryd.results64, go_sem, hp]) rfl ?_
        exact ⟨by rw [HE.out], H1.out.2⟩
    · subst hk
      have hm0 := (hmin rfl).1
      clear hl1 hmin
      by_cases hp : 0 < n
      · have d1 : decide ((0 : Int) < (n : Int)) = true := decide_eq_true (by omega)
        by_cases hz : mn = 0
        · have e1 : decide ((0 : Int) < mn) = false := decide_eq_false (by omega)
          have HE := hide (show res = false from HR.out.trans (if_pos hz))
          go_wp2_with fail
          refine bodyPost_ret (v := .bool false) (by simp [results, Tryd.results64, go_sem, hp]) rfl ?_
          exact ⟨by rw [HE.out], H1.out.2⟩
        · have e1 : decide ((0 : Int) < mn) = true := decide_eq_true (by omega)
          have HE := hide (show res = true from HR.out.trans ((if_neg hz).trans d1))
          go_wp2_with fail
          refine bodyPost_ret (v := .bool true) (by simp [results, Tryd.results64, go_sem, hp]) rfl ?_
          exact ⟨by rw [HE.out], H1.out.2⟩
      · have d1 : decide ((0 : Int) < (n : Int)) = false := decide_eq_false (by omega)
        have HE := hide (show res = false from HR.out.trans (by by_cases hz : mn = 0; exact if_pos hz; exact (if_neg hz).trans d1))
        go_wp2_with fail
        refine bodyPost_ret (v := .bool false) (by simp [results, Tryd.results64, go_sem, hp]) rfl ?_
        exact ⟨by rw [HE.out], H1.out.2⟩
end Go.Proofs.YtbbhobojghmkpaaDoor

/-! ## RefTags23b -/
namespace Go.Proofs.YtbbhobojghmkpaaDoor
open Go.RowKit

def sumI (b : Bool) (n : Int) : Int := if b then n else 0
theorem sumI_bd (b : Bool) (n : Int) (h : 0 ≤ n) : 0 ≤ sumI b n ∧ sumI b n ≤ n := by cases b <;> simp [sumI] <;> omega
theorem sum23_any (b : Bool) (n : Int) (w : World) : Calls Tryd.prog 65 #[.bool b, .int .i64 n] w fun e w' => e = .returned (.int .i64 (sumI b n)) ∧ w' = w := by
  unfold sumI
  cases b <;> (
    go_enter Tryd.func65, Tryd.ntmps65
    go_wp2_with fail
    go_ret
    exact ⟨rfl, rfl⟩)
theorem wrapI23 {x : Int} (h : 0 ≤ x ∧ x ≤ 1000) : IntKind.i64.wrap x = x := by unfold IntKind.wrap; simp [IntKind.bits, IntKind.signed]; omega
set_option maxRecDepth 100000 in
set_option maxHeartbeats 2000000 in
theorem refTags_any (t : T) (A : Option Addr) (c : Nat) (w : World) (hN : t.nodes ≤ 100000) (hwf : t.wf) (hin : T.In w (· < w.heap.size) t A) :
    Calls Tryd.prog 28 #[.agg (t.hd.cells (.slice A t.subs.length c)).toArray] w fun e w' => e = .returned (.int .i64 (t.tags : Int)) ∧ Below w.heap.size w w' := by
  have HC := hide (fun (y : World) (hy : Below w.heap.size w y) => refCheck_any t A c y (Nat.le_trans hN (by decide)) (hin.next hy))
  have HH := hide (fun (hf : t.form = true) (d : Nat) (y : World) (hy : Below w.heap.size w y) => refHas23_any 100000 t A c y d hN (by decide) hf (hin.next hy))
  have HNo := hide (fun (hf : t.form = true) (y : World) (hy : Below w.heap.size w y) => refNothing_any 100000 t A c y hN (by decide) hf hwf (hin.next hy))
  have HF := hide (fun (hc : t.check = none) (y : World) (hy : Below w.heap.size w y) => refFirsts_any t A c y (Nat.le_trans hN (by decide)) hwf hc (hin.next hy))
  have HO := hide (fun (hf : t.form = true) (y : World) (hy : Below w.heap.size w y) => refOnly_any 100000 t A c y hN (by decide) hf hwf (hin.next hy))
  have HRq := hide (fun (hf : t.form = true) (y : World) (hy : Below w.heap.size w y) => refReq_any 100000 t A c y hN (Nat.le_refl _) hf hwf (hin.next hy))
  have hfc := @T.form_of_check0 t
  have hcn := @T.chkN_none t
  have hcs := @T.chkN_some t
  obtain ⟨res, hres⟩ : ∃ r, r = t.tags := ⟨_, rfl⟩
  rw [← hres]
  unfold T.tags T.anchor at hres
  generalize t.check = ck at *
  generalize t.chkN = n at *
  clear hin hwf hN
  go_enter Tryd.func28, Tryd.ntmps28
  go_upto_region 1 with fail
  obtain ⟨w0, hw0⟩ : ∃ y, y = w.alloc (.cells (t.hd.cells (.slice A t.subs.length c)).toArray 27) := ⟨_, rfl⟩
  have hbW := (Below.refl w.heap.size w).alloc (Nat.le_refl _) (.cells (t.hd.cells (.slice A t.subs.length c)).toArray 27)
  have hk := Blk.new w 27 (t.hd.cells (.slice A t.subs.length c)).toArray
  rw [← hw0] at hbW hk
  have H0 := hide (And.intro hbW hk)
  rw [← hw0]
  clear hbW hk hw0
  go_wp2_with (refine wpList_load_cells rfl 27 _ rfl ⟨w.heap.size, 0, none⟩ rfl (t.hd.cells (.slice A t.subs.length c)) _ Tryd.underlying27 rfl (by rw [Tryd.sizeNode]; simp [Hd.cells_length]) (cells_of_blk23 H0.out.2) ?_)
  refine (HC.out w0 H0.out.1).mono ?_
  rintro e w1 ⟨rfl, hb⟩
  have H1 := hide (And.intro (H0.out.1.trans (hb.mono H0.out.1.size)) (H0.out.2.next hb))
  clear hb HC H0
  cases ck with
  | some gk =>
    have gz : n ≠ 0 := hcs rfl
    have gz' : decide (n = 0) = false := decide_eq_false gz
    have HE := hide (show res = 0 from hres)
    clear hres hfc hcn hcs
    go_wp2_with fail
    refine bodyPost_ret (v := .int .i64 0) (by simp [results, Tryd.results28, go_sem]) rfl ?_
    exact ⟨by rw [HE.out]; rfl, H1.out.1⟩
  | none =>
    have hfo := hfc rfl
    have hn0 := hcn rfl
    subst hn0
    have HF2 := hide (HF.out rfl)
    simp only at hres
    clear hfc hcn hcs HF
    generalize t.kb = kb at *
    generalize t.nothing = tn at *
    generalize t.mayNull = nb at *
    generalize t.firsts = F at *
    generalize t.only = on at *
    generalize t.req = rq at *
    have HR := hide (congrArg (fun x : Nat => (x : Int)) hres)
    clear hres
    go_wp2_with (refine wpList_load_cells rfl 27 _ rfl ⟨w.heap.size, 0, none⟩ rfl (t.hd.cells (.slice A t.subs.length c)) _ Tryd.underlying27 rfl (by rw [Tryd.sizeNode]; simp [Hd.cells_length]) (cells_of_blk23 H1.out.2) ?_)
    refine (HH.out hfo 3 w1 H1.out.1).mono ?_
    rintro e w2 ⟨rfl, hb⟩
    have H2 := hide (And.intro (H1.out.1.trans (hb.mono H1.out.1.size)) (H1.out.2.next hb))
    clear hb H1
    generalize kb.testBit 3 = b3 at *
    go_wp2_with (refine wpList_load_cells rfl 27 _ rfl ⟨w.heap.size, 0, none⟩ rfl (t.hd.cells (.slice A t.subs.length c)) _ Tryd.underlying27 rfl (by rw [Tryd.sizeNode]; simp [Hd.cells_length]) (cells_of_blk23 H2.out.2) ?_)
    refine (HH.out hfo 4 w2 H2.out.1).mono ?_
    rintro e w3 ⟨rfl, hb⟩
    have H3 := hide (And.intro (H2.out.1.trans (hb.mono H2.out.1.size)) (H2.out.2.next hb))
    clear hb H2
    generalize kb.testBit 4 = b4 at *
    go_wp2_with (refine wpList_load_cells rfl 27 _ rfl ⟨w.heap.size, 0, none⟩ rfl (t.hd.cells (.slice A t.subs.length c)) _ Tryd.underlying27 rfl (by rw [Tryd.sizeNode]; simp [Hd.cells_length]) (cells_of_blk23 H3.out.2) ?_)
    refine (HH.out hfo 7 w3 H3.out.1).mono ?_
    rintro e w4 ⟨rfl, hb⟩
    have H4 := hide (And.intro (H3.out.1.trans (hb.mono H3.out.1.size)) (H3.out.2.next hb))
    clear hb H3
    generalize kb.testBit 7 = b7 at *
    go_wp2_with (refine wpList_load_cells rfl 27 _ rfl ⟨w.heap.size, 0, none⟩ rfl (t.hd.cells (.slice A t.subs.length c)) _ Tryd.underlying27 rfl (by rw [Tryd.sizeNode]; simp [Hd.cells_length]) (cells_of_blk23 H4.out.2) ?_)
    refine (HNo.out hfo w4 H4.out.1).mono ?_
    rintro e w5 ⟨rfl, hb⟩
    have H5 := hide (And.intro (H4.out.1.trans (hb.mono H4.out.1.size)) (H4.out.2.next hb))
    clear hb H4
    go_wp2_with (refine wpList_load_cells rfl 27 _ rfl ⟨w.heap.size, 0, none⟩ rfl (t.hd.cells (.slice A t.subs.length c)) _ Tryd.underlying27 rfl (by rw [Tryd.sizeNode]; simp [Hd.cells_length]) (cells_of_blk23 H5.out.2) ?_)
    refine (HF2.out w5 H5.out.1).mono ?_
    rintro e w6 ⟨rfl, hb⟩
    have H6 := hide (And.intro (H5.out.1.trans (hb.mono H5.out.1.size)) (H5.out.2.next hb))
    clear hb H5
    unfold setV setC
    go_upto_region 8 with fail
    have hal := (Below.refl w6.heap.size w6).alloc (Nat.le_refl _) (.cells (setC F).toArray 24)
    unfold setC at hal
    generalize (w6.alloc (.cells #[.int .u64 ((wd F 0 : Nat) : Int), .int .u64 ((wd F 1 : Nat) : Int), .int .u64 ((wd F 2 : Nat) : Int), .int .u64 ((wd F 3 : Nat) : Int)] 24)) = w7 at *
    have H7 := hide (And.intro (H6.out.1.trans (hal.mono H6.out.1.size)) (H6.out.2.next hal))
    clear hal H6
    go_wp2_with (refine wpList_load_cells rfl 27 _ rfl ⟨w.heap.size, 0, none⟩ rfl (t.hd.cells (.slice A t.subs.length c)) _ Tryd.underlying27 rfl (by rw [Tryd.sizeNode]; simp [Hd.cells_length]) (cells_of_blk23 H7.out.2) ?_)
    refine (HO.out hfo w7 H7.out.1).mono ?_
    rintro e w8 ⟨rfl, hb⟩
    have H8 := hide (And.intro (H7.out.1.trans (hb.mono H7.out.1.size)) (H7.out.2.next hb))
    clear hb H7
    unfold optV
    generalize on.isSome = oi at *
    generalize on.getD ⟨#[]⟩ = os at *
    go_wp2_with (refine wpList_load_cells rfl 27 _ rfl ⟨w.heap.size, 0, none⟩ rfl (t.hd.cells (.slice A t.subs.length c)) _ Tryd.underlying27 rfl (by rw [Tryd.sizeNode]; simp [Hd.cells_length]) (cells_of_blk23 H8.out.2) ?_)
    refine (HRq.out hfo w8 H8.out.1).mono ?_
    rintro e w9 ⟨rfl, hb⟩
    have H9 := hide (And.intro (H8.out.1.trans (hb.mono H8.out.1.size)) (H8.out.2.next hb))
    clear hb H8
    cases b3 with
    | true =>
      cases oi with
      | true =>
        have hs1 := sumI_bd tn 1 (by decide)
        have hs2 := sumI_bd nb 2 (by decide)
        have hs4 := sumI_bd b7 4 (by decide)
        have hs8 := sumI_bd true 8 (by decide)
        have hs16 := sumI_bd false 16 (by decide)
        have hs32 := sumI_bd (!rq.toList.isEmpty) 32 (by decide)
        have hw2 := wrapI23 (x := sumI tn 1 + sumI nb 2) (by omega)
        have hw4 := wrapI23 (x := (sumI tn 1 + sumI nb 2) + sumI b7 4) (by omega)
        have hw8 := wrapI23 (x := ((sumI tn 1 + sumI nb 2) + sumI b7 4) + sumI true 8) (by omega)
        have hw16 := wrapI23 (x := (((sumI tn 1 + sumI nb 2) + sumI b7 4) + sumI true 8) + sumI false 16) (by omega)
        have hw32 := wrapI23 (x := ((((sumI tn 1 + sumI nb 2) + sumI b7 4) + sumI true 8) + sumI false 16) + sumI (!rq.toList.isEmpty) 32) (by omega)
        go_wp2_with fail
        refine (sum23_any tn 1 _).mono ?_
        rintro e y ⟨rfl, rfl⟩
        go_wp2_with fail
        refine (sum23_any nb 2 _).mono ?_
        rintro e y ⟨rfl, rfl⟩
        go_wp2_with fail
        refine (sum23_any b7 4 _).mono ?_
        rintro e y ⟨rfl, rfl⟩
        go_wp2_with fail
        refine (sum23_any true 8 _).mono ?_
        rintro e y ⟨rfl, rfl⟩
        go_wp2_with fail
        refine (sum23_any false 16 _).mono ?_
        rintro e y ⟨rfl, rfl⟩
        go_wp2_with fail
        refine (sum23_any (!rq.toList.isEmpty) 32 _).mono ?_
        rintro e y ⟨rfl, rfl⟩
        go_wp2_with fail
        refine bodyPost_ret (v := .int .i64 (((((sumI tn 1 + sumI nb 2) + sumI b7 4) + sumI true 8) + sumI false 16) + sumI (!rq.toList.isEmpty) 32)) (by simp [results, Tryd.results28, go_sem]) rfl ?_
        refine ⟨?_, H9.out.1⟩
        have hq := HR.out
        simp only [tagsOf_sum] at hq
        rw [hq]
        simp only [sumI, Bool.true_or, Bool.false_or, Bool.not_true, Bool.and_false, Bool.true_and, Bool.false_and]
      | false =>
        have hs1 := sumI_bd tn 1 (by decide)
        have hs2 := sumI_bd nb 2 (by decide)
        have hs4 := sumI_bd b7 4 (by decide)
        have hs8 := sumI_bd true 8 (by decide)
        have hs16 := sumI_bd false 16 (by decide)
        have hs32 := sumI_bd (!rq.toList.isEmpty) 32 (by decide)
        have hw2 := wrapI23 (x := sumI tn 1 + sumI nb 2) (by omega)
        have hw4 := wrapI23 (x := (sumI tn 1 + sumI nb 2) + sumI b7 4) (by omega)
        have hw8 := wrapI23 (x := ((sumI tn 1 + sumI nb 2) + sumI b7 4) + sumI true 8) (by omega)
        have hw16 := wrapI23 (x := (((sumI tn 1 + sumI nb 2) + sumI b7 4) + sumI true 8) + sumI false 16) (by omega)
        have hw32 := wrapI23 (x := ((((sumI tn 1 + sumI nb 2) + sumI b7 4) + sumI true 8) + sumI false 16) + sumI (!rq.toList.isEmpty) 32) (by omega)
        go_wp2_with fail
        refine (sum23_any tn 1 _).mono ?_
        rintro e y ⟨rfl, rfl⟩
        go_wp2_with fail
        refine (sum23_any nb 2 _).mono ?_
        rintro e y ⟨rfl, rfl⟩
        go_wp2_with fail
        refine (sum23_any b7 4 _).mono ?_
        rintro e y ⟨rfl, rfl⟩
        go_wp2_with fail
        refine (sum23_any true 8 _).mono ?_
        rintro e y ⟨rfl, rfl⟩
        go_wp2_with fail
        refine (sum23_any false 16 _).mono ?_
        rintro e y ⟨rfl, rfl⟩
        go_wp2_with fail
        refine (sum23_any (!rq.toList.isEmpty) 32 _).mono ?_
        rintro e y ⟨rfl, rfl⟩
        go_wp2_with fail
        refine bodyPost_ret (v := .int .i64 (((((sumI tn 1 + sumI nb 2) + sumI b7 4) + sumI true 8) + sumI false 16) + sumI (!rq.toList.isEmpty) 32)) (by simp [results, Tryd.results28, go_sem]) rfl ?_
        refine ⟨?_, H9.out.1⟩
        have hq := HR.out
        simp only [tagsOf_sum] at hq
        rw [hq]
        simp only [sumI, Bool.true_or, Bool.false_or, Bool.not_true, Bool.and_false, Bool.true_and, Bool.false_and]
    | false =>
      cases oi with
      | true =>
        have hs1 := sumI_bd tn 1 (by decide)
        have hs2 := sumI_bd nb 2 (by decide)
        have hs4 := sumI_bd b7 4 (by decide)
        have hs8 := sumI_bd b4 8 (by decide)
        have hs16 := sumI_bd (!b4) 16 (by decide)
        have hs32 := sumI_bd (!rq.toList.isEmpty) 32 (by decide)
        have hw2 := wrapI23 (x := sumI tn 1 + sumI nb 2) (by omega)
        have hw4 := wrapI23 (x := (sumI tn 1 + sumI nb 2) + sumI b7 4) (by omega)
        have hw8 := wrapI23 (x := ((sumI tn 1 + sumI nb 2) + sumI b7 4) + sumI b4 8) (by omega)
        have hw16 := wrapI23 (x := (((sumI tn 1 + sumI nb 2) + sumI b7 4) + sumI b4 8) + sumI (!b4) 16) (by omega)
        have hw32 := wrapI23 (x := ((((sumI tn 1 + sumI nb 2) + sumI b7 4) + sumI b4 8) + sumI (!b4) 16) + sumI (!rq.toList.isEmpty) 32) (by omega)
        go_wp2_with fail
        refine (sum23_any tn 1 _).mono ?_
        rintro e y ⟨rfl, rfl⟩
        go_wp2_with fail
        refine (sum23_any nb 2 _).mono ?_
        rintro e y ⟨rfl, rfl⟩
        go_wp2_with fail
        refine (sum23_any b7 4 _).mono ?_
        rintro e y ⟨rfl, rfl⟩
        go_wp2_with fail
        refine (sum23_any b4 8 _).mono ?_
        rintro e y ⟨rfl, rfl⟩
        go_wp2_with fail
        refine (sum23_any (!b4) 16 _).mono ?_
        rintro e y ⟨rfl, rfl⟩
        go_wp2_with fail
        refine (sum23_any (!rq.toList.isEmpty) 32 _).mono ?_
        rintro e y ⟨rfl, rfl⟩
        go_wp2_with fail
        refine bodyPost_ret (v := .int .i64 (((((sumI tn 1 + sumI nb 2) + sumI b7 4) + sumI b4 8) + sumI (!b4) 16) + sumI (!rq.toList.isEmpty) 32)) (by simp [results, Tryd.results28, go_sem]) rfl ?_
        refine ⟨?_, H9.out.1⟩
        have hq := HR.out
        simp only [tagsOf_sum] at hq
        rw [hq]
        simp only [sumI, Bool.true_or, Bool.false_or, Bool.not_true, Bool.and_false, Bool.true_and, Bool.false_and]
      | false =>
        have hs1 := sumI_bd tn 1 (by decide)
        have hs2 := sumI_bd nb 2 (by decide)
        have hs4 := sumI_bd b7 4 (by decide)
        have hs8 := sumI_bd b4 8 (by decide)
        have hs16 := sumI_bd false 16 (by decide)
        have hs32 := sumI_bd (!rq.toList.isEmpty) 32 (by decide)
        have hw2 := wrapI23 (x := sumI tn 1 + sumI nb 2) (by omega)
        have hw4 := wrapI23 (x := (sumI tn 1 + sumI nb 2) + sumI b7 4) (by omega)
        have hw8 := wrapI23 (x := ((sumI tn 1 + sumI nb 2) + sumI b7 4) + sumI b4 8) (by omega)
        have hw16 := wrapI23 (x := (((sumI tn 1 + sumI nb 2) + sumI b7 4) + sumI b4 8) + sumI false 16) (by omega)
        have hw32 := wrapI23 (x := ((((sumI tn 1 + sumI nb 2) + sumI b7 4) + sumI b4 8) + sumI false 16) + sumI (!rq.toList.isEmpty) 32) (by omega)
        go_wp2_with fail
        refine (sum23_any tn 1 _).mono ?_
        rintro e y ⟨rfl, rfl⟩
        go_wp2_with fail
        refine (sum23_any nb 2 _).mono ?_
        rintro e y ⟨rfl, rfl⟩
        go_wp2_with fail
        refine (sum23_any b7 4 _).mono ?_
        rintro e y ⟨rfl, rfl⟩
        go_wp2_with fail
        refine (sum23_any b4 8 _).mono ?_
        rintro e y ⟨rfl, rfl⟩
        go_wp2_with fail
        refine (sum23_any false 16 _).mono ?_
        rintro e y ⟨rfl, rfl⟩
        go_wp2_with fail
        refine (sum23_any (!rq.toList.isEmpty) 32 _).mono ?_
        rintro e y ⟨rfl, rfl⟩
        go_wp2_with fail
        refine bodyPost_ret (v := .int .i64 (((((sumI tn 1 + sumI nb 2) + sumI b7 4) + sumI b4 8) + sumI false 16) + sumI (!rq.toList.isEmpty) 32)) (by simp [results, Tryd.results28, go_sem]) rfl ?_
        refine ⟨?_, H9.out.1⟩
        have hq := HR.out
        simp only [tagsOf_sum] at hq
        rw [hq]
        simp only [sumI, Bool.true_or, Bool.false_or, Bool.not_true, Bool.and_false, Bool.true_and, Bool.false_and]
end Go.Proofs.YtbbhobojghmkpaaDoor
