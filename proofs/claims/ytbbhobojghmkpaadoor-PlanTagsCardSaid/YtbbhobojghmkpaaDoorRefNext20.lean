/- RefReq20: RefOnly20: trawlref20.text, Only. (Printed by gen_refonly20.py.)
RefReq20: trawlref20.candidates, Required. (Printed by gen_refreq20.py.)
RefFirsts20: trawlref20.Firsts: the document's own answer is the program's. (Printed by gen_reffirsts20.py.)
RefNext20: trawlref01.Has, trawlref20.at, trawlref20.Next, trawllaw20.long: what they answer. (Printed by gen_refnext20.py.) -/
import Derived.Test.YtbbhobojghmkpaaDoorOnly20
import Derived.Test.YtbbhobojghmkpaaDoorInts
import Derived.Test.YtbbhobojghmkpaaDoorReq20
import Derived.Test.YtbbhobojghmkpaaDoorNext20
import Derived.Test.YtbbhobojghmkpaaDoorOfPlain17
import Derived.Test.YtbbhobojghmkpaaDoorRefSets2
import Derived.Test.YtbbhobojghmkpaaDoorRefCheck20
import Derived.Test.YtbbhobojghmkpaaDoorSames
import Derived.Test.YtbbhobojghmkpaaDoorHas
import Derived.Lib.LastIndexLaws
set_option linter.unusedSimpArgs false
set_option linter.unusedVariables false
set_option linter.unnecessarySimpa false

/-! ## RefReq20 -/
/-! ## RefOnly20 -/
namespace Go.Proofs.YtbbhobojghmkpaaDoor
open Go.RowKit

/-- What the text by the kinds tells. -/
def textR (o : Option ByteArray) (s : ByteArray) (ok : Bool) : Prop := (if ok = true ∧ s.size ≤ 64 then some s else none) = o
def TextIs (o : Option ByteArray) (w : World) (e : Ending) (w' : World) : Prop := ∃ s ok, e = .returned (.tuple #[.string s, .bool ok]) ∧ textR o s ok ∧ s.size ≤ 200 ∧ Below w.heap.size w w'
theorem textR_no (s : ByteArray) : textR none s false := by unfold textR; rw [if_neg (by simp)]
theorem textR_yes {s : ByteArray} (h : s.size ≤ 64) : textR (some s) s true := by unfold textR; rw [if_pos ⟨rfl, h⟩]
theorem textR_opt {o : Option ByteArray} (h : ∀ x, o = some x → x.size ≤ 64) : textR o (o.getD ⟨#[]⟩) o.isSome := by
  cases o with
  | none => exact textR_no _
  | some x => exact textR_yes (h x rfl)
theorem cnt_any {S : Nat → Bool} (h : cntb S 256 = 1) : anyB S = true := by
  cases he : anyB S with
  | true => rfl
  | false =>
    unfold anyB at he
    rw [List.any_eq_false] at he
    have hz : ∀ n, n ≤ 256 → cntb S n = 0 := fun n => by
      induction n with
      | zero => intro _; rfl
      | succ n ih =>
        intro hn
        have h1 : S n = false := by simpa using he n (by simpa using (show n < 256 by omega))
        rw [cntb, ih (by omega), h1]; rfl
    rw [hz 256 (Nat.le_refl _)] at h
    cases h
/-- The state of the row's loop. -/
def seqI (acc : ByteArray) (r : List (Option ByteArray)) (res : Option ByteArray) : Prop := if acc.size ≤ 64 then seqO acc r = res else res = none
def altI (s : ByteArray) (ok : Bool) (r : List (Option ByteArray)) : Option ByteArray := if ok = true ∧ r.all (fun o => decide (o = some s)) = true then some s else none
theorem altI_no (s : ByteArray) (r : List (Option ByteArray)) : altI s false r = none := by unfold altI; rw [if_neg (by simp)]
theorem altI_step (s : ByteArray) (ok : Bool) (x : Option ByteArray) (r : List (Option ByteArray)) : altI s ok (x :: r) = altI s (ok && decide (x = some s)) r := by
  unfold altI
  cases ok <;> cases h : decide (x = some s) <;> simp_all
theorem T.form_more {t : T} (hf : t.form = true) (hk : t.hd.kind = 6) : 1 < t.subs.length := by
  rw [T.form_eq, Bool.and_eq_true] at hf
  have h1 := hf.1
  unfold Hd.formed at h1
  rw [if_neg (by omega), if_neg (by omega), if_pos (by omega)] at h1
  simp at h1
  omega
set_option maxRecDepth 100000 in
set_option maxHeartbeats 4000000 in
theorem text_of (t : T) (A : Option Addr) (c : Nat) (w : World) (hN : t.nodes ≤ 1000000) (hf : t.form = true) (hwf : t.wf) (hin : T.In w (· < w.heap.size) t A)
    (HO : ∀ s ∈ t.subs, ∀ (B : Option Addr) (c' : Nat) (y : World), T.In y (· < y.heap.size) s B → Calls Tryd.prog 18 #[.agg (s.hd.cells (.slice B s.subs.length c')).toArray] y fun e w' => e = .returned (optV s.only) ∧ Below y.heap.size y w') :
    Calls Tryd.prog 50 #[.agg (t.hd.cells (.slice A t.subs.length c)).toArray] w (TextIs t.only w) := by
  have hkind := T.form_kind hf
  have hmore := T.form_more hf
  have hhw := (T.wf_eq.1 hwf).1
  have hmin := fun hk => T.form_min (h := t.hd) (l := t.subs) (by rw [T.eta]; exact hf) hk
  obtain ⟨h, l⟩ := t
  have hsz := TL.only_size l (T.form_sub hf)
  have hlen0 := T.length_lt (T.mk h l)
  obtain ⟨res, hres⟩ : ∃ r, r = (T.mk h l).only := ⟨_, rfl⟩
  rw [← hres]
  rw [T.only] at hres
  obtain ⟨kind, s0, s1, s2, s3, num, mn, mx, bare⟩ := h
  simp only [T.nodes, T.hd, T.subs, Hd.cells] at hlen0 hN hkind hmore hhw hmin HO ⊢
  have hbel := (Below.refl w.heap.size w).alloc (Nat.le_refl _) (.cells #[.int .i64 kind, .int .u64 s0, .int .u64 s1, .int .u64 s2, .int .u64 s3, .slice A l.length c, .int .i64 num, .int .i64 mn, .int .i64 mx, .bool bare] 27)
  have hb0 := Blk.new w 27 #[.int .i64 kind, .int .u64 s0, .int .u64 s1, .int .u64 s2, .int .u64 s3, .slice A l.length c, .int .i64 num, .int .i64 mn, .int .i64 mx, .bool bare]
  have H0 := hide (And.intro hb0 hbel)
  have hin2 := hin.next hbel
  have c0 := hb0.cell
  have HIH := hide HO
  clear HO hf hwf hin hb0 hbel
  rcases hkind with hk | hk | hk | hk | hk | hk | ⟨hk, hl1⟩ | ⟨hk, hl1⟩
  · subst hk
    have HR := hide (show res = some ⟨#[]⟩ by rw [hres]; exact Hd.only_1 (by simp) _)
    clear hres hmin hin2 hsz hmore
    go_enter Tryd.func50, Tryd.ntmps50
    go_wp2_with fail
    refine bodyPost_ret (v := .tuple #[.string (⟨#[]⟩), .bool true]) (by simp [results, Tryd.results50, go_sem]) rfl ?_
    exact ⟨_, _, rfl, by rw [HR.out]; exact textR_yes (by decide), by decide, H0.out.2⟩
  · subst hk
    have HR := hide (show res = some ⟨#[]⟩ by rw [hres]; exact Hd.only_1 (by simp) _)
    clear hres hmin hin2 hsz hmore
    go_enter Tryd.func50, Tryd.ntmps50
    go_wp2_with fail
    refine bodyPost_ret (v := .tuple #[.string (⟨#[]⟩), .bool true]) (by simp [results, Tryd.results50, go_sem]) rfl ?_
    exact ⟨_, _, rfl, by rw [HR.out]; exact textR_yes (by decide), by decide, H0.out.2⟩
  · subst hk
    have HR := hide (show res = some ⟨#[]⟩ by rw [hres]; exact Hd.only_1 (by simp) _)
    clear hres hmin hin2 hsz hmore
    go_enter Tryd.func50, Tryd.ntmps50
    go_wp2_with fail
    refine bodyPost_ret (v := .tuple #[.string (⟨#[]⟩), .bool true]) (by simp [results, Tryd.results50, go_sem]) rfl ?_
    exact ⟨_, _, rfl, by rw [HR.out]; exact textR_yes (by decide), by decide, H0.out.2⟩
  · subst hk
    have e := setV_has ⟨2, s0, s1, s2, s3, num, mn, mx, bare⟩ hhw
    simp only at e
    have HCo := hide (fun (y : World) => refCount_any (Hd.has ⟨2, s0, s1, s2, s3, num, mn, mx, bare⟩) y)
    have HFi := hide (fun (y : World) => refFirst_any (Hd.has ⟨2, s0, s1, s2, s3, num, mn, mx, bare⟩) y)
    rw [e] at HFi HCo
    rw [Hd.only_2 rfl] at hres
    unfold Hd.count Hd.first at hres
    have hfl : firstB (Hd.has ⟨2, s0, s1, s2, s3, num, mn, mx, bare⟩) < 256 := firstB_lt _
    rw [show (((List.range 256).find? fun b => Hd.has ⟨2, s0, s1, s2, s3, num, mn, mx, bare⟩ b).getD 0) = firstB (Hd.has ⟨2, s0, s1, s2, s3, num, mn, mx, bare⟩) from rfl] at hres
    have hca := @cnt_any (Hd.has ⟨2, s0, s1, s2, s3, num, mn, mx, bare⟩)
    clear e hhw hmin hin2 hsz hmore
    generalize firstB (Hd.has ⟨2, s0, s1, s2, s3, num, mn, mx, bare⟩) = fb at *
    generalize cntb (Hd.has ⟨2, s0, s1, s2, s3, num, mn, mx, bare⟩) 256 = cv at *
    generalize anyB (Hd.has ⟨2, s0, s1, s2, s3, num, mn, mx, bare⟩) = av at *
    have HR := hide hres
    clear hres
    go_enter Tryd.func50, Tryd.ntmps50
    go_upto_region 1 with fail
    generalize (w.alloc (.cells #[.int .i64 2, .int .u64 s0, .int .u64 s1, .int .u64 s2, .int .u64 s3, .slice A l.length c, .int .i64 num, .int .i64 mn, .int .i64 mx, .bool bare] 27)) = W at *
    by_cases hc : cv = 1
    · have hav := hca hc
      subst hav
      rw [if_pos rfl] at HFi
      have hq : ((cv : Int) == 1) = true := by rw [hc]; rfl
      have HC := hide hc
      have hw8 : IntKind.u8.wrap (fb : Int) = (fb : Int) := by simp [IntKind.wrap, IntKind.bits, IntKind.signed]; omega
      clear hc hca
      go_wp2_with fail
      refine (HCo.out W).mono ?_
      rintro e w1 ⟨rfl, hb1⟩
      have H1 := hide (And.intro (H0.out.1.next hb1) (H0.out.2.trans (hb1.mono H0.out.2.size)))
      clear hb1 c0 HCo
      have c1 := H1.out.1.cell
      go_wp2_with fail
      refine (HFi.out _).mono ?_
      rintro e w2 ⟨rfl, hb2⟩
      have H2 := hide (H1.out.2.trans (hb2.mono H1.out.2.size))
      clear hb2 c1
      have hcv := one_byte fb hfl w2.heap.size (w2.alloc (.cells #[.int .u8 (fb : Int)] 5)) (by rw [(Blk.new w2 _ _).cell]; rfl)
      go_wp2_with fail
      refine bodyPost_ret (v := .tuple #[.string (⟨#[fb.toUInt8]⟩), .bool true]) (by simp [results, Tryd.results50, go_sem]) rfl ?_
      exact ⟨_, _, rfl, by rw [HR.out, if_pos HC.out]; exact textR_yes (by show (#[fb.toUInt8] : Array UInt8).size ≤ 64; simp), by show (#[fb.toUInt8] : Array UInt8).size ≤ 200; simp, H2.out.alloc H2.out.size _⟩
    · have hq : ((cv : Int) == 1) = false := by rw [beq_eq_false_iff_ne]; omega
      have HC := hide hc
      clear hc hca
      go_wp2_with fail
      refine (HCo.out W).mono ?_
      rintro e w1 ⟨rfl, hb1⟩
      have H1 := hide (H0.out.2.trans (hb1.mono H0.out.2.size))
      clear hb1 c0 HCo
      go_wp2_with fail
      refine bodyPost_ret (v := .tuple #[.string (⟨#[]⟩), .bool false]) (by simp [results, Tryd.results50, go_sem]) rfl ?_
      exact ⟨_, _, rfl, by rw [HR.out, if_neg HC.out]; exact textR_no _, by decide, H1.out⟩
  · subst hk
    have HR := hide (show res = seqO ⟨#[]⟩ (TL.onlys l) by rw [hres]; exact Hd.only_5 rfl _)
    have HS := hide hsz
    clear hres hmin hsz hmore
    go_enter Tryd.func50, Tryd.ntmps50
    go_upto_region 1 with fail
    generalize (w.alloc (.cells #[.int .i64 5, .int .u64 s0, .int .u64 s1, .int .u64 s2, .int .u64 s3, .slice A l.length c, .int .i64 num, .int .i64 mn, .int .i64 mx, .bool bare] 27)) = W at *
    go_wp2_with fail
    have HIN := hide hin2
    clear hin2 c0
    go_loopw [4, 5] (fun av kv wr => ∃ (k : Nat) (acc : ByteArray), kv = .int .i64 (k : Int) ∧ av = .string acc ∧ k ≤ l.length ∧ acc.size ≤ 128 ∧ seqI acc (TL.onlys (l.drop k)) res ∧ Blk wr w.heap.size 27 #[.int .i64 5, .int .u64 s0, .int .u64 s1, .int .u64 s2, .int .u64 s3, .slice A l.length c, .int .i64 num, .int .i64 mn, .int .i64 mx, .bool bare] ∧ Below W.heap.size W wr) (fun _ kv _ => l.length - (intOf kv).toNat)
    case atStart => exact ⟨0, ⟨#[]⟩, rfl, rfl, Nat.zero_le _, by decide, by unfold seqI; rw [if_pos (by decide), List.drop_zero, HR.out], H0.out.1, Below.refl _ _⟩
    case round =>
      obtain ⟨k, acc, rfl, rfl, hk, hacc, hinv, hbx, hbel⟩ := hrel
      have HH := hide (And.intro hbx hbel)
      have HV := hide hinv
      have hzb0 := hbx.lt
      have c0 := hbx.cell
      clear hinv
      by_cases hlt : k < l.length
      case neg =>
        have g1 : decide ((k : Int) < (l.length : Int)) = false := decide_eq_false (by omega)
        have hke : k = l.length := by omega
        have HE := hide (show textR res acc true by
          have hv := HV.out
          unfold seqI at hv
          unfold textR
          by_cases h : acc.size ≤ 64
          · rw [if_pos h, hke, List.drop_eq_nil_of_le (Nat.le_refl _)] at hv
            rw [if_pos ⟨rfl, h⟩, ← hv]; rfl
          · rw [if_neg h] at hv
            rw [if_neg (fun h2 => h h2.2), hv])
        clear hbx hbel hke
        go_wp2_with fail
        refine bodyPost_ret (v := .tuple #[.string (acc), .bool true]) (by simp [results, Tryd.results50, go_sem]) rfl ?_
        exact ⟨_, _, rfl, HE.out, by omega, H0.out.2.trans (HH.out.2.mono H0.out.2.size)⟩
      case pos =>
        have g1 : decide ((k : Int) < (l.length : Int)) = true := decide_eq_true (by omega)
        have hs := List.getElem?_eq_getElem hlt
        obtain ⟨b, ofs, B, c', rfl, hbk, hcs, hsub⟩ := TL.In.at_ (T.In_iff.1 HIN.out) hs
        have hmem := List.getElem_mem hlt
        have hdrop : l.drop k = l[k] :: l.drop (k + 1) := List.drop_eq_getElem_cons hlt
        have heq := HV.out
        have hs64 := HS.out (l[k]'hlt) hmem
        have HX := hide (fun (y : World) (hi : T.In y (· < y.heap.size) (l[k]'hlt) B) => HIH.out (l[k]'hlt) hmem B c' y hi)
        rw [hdrop, TL.onlys] at heq
        generalize l[k] = s at *
        obtain ⟨n0, n1, n2, n3, n4, n5, n6, n7, n8, n9⟩ := (hcs.same (same_of_below hbel) hbk).node
        have HQ := hide heq
        have HI := hide (hsub.next hbel)
        clear hs hcs heq hdrop hmem hsub HV hbx hbel
        go_wp2_with fail
        refine (HX.out wr HI.out).mono ?_
        rintro e w6 ⟨rfl, hb6⟩
        have HH6 := hide (And.intro (HH.out.1.next hb6) (HH.out.2.trans (hb6.mono HH.out.2.size)))
        clear hb6 HX HI HH c0 n0 n1 n2 n3 n4 n5 n6 n7 n8 n9
        have c0 := HH6.out.1.cell
        unfold optV
        have HS6 := hide hs64
        clear hs64
        generalize s.only = so at *
        cases so with
        | none =>
          have HE := hide (show res = none by
            have hv := HQ.out
            unfold seqI at hv
            by_cases h : acc.size ≤ 64
            · rw [if_pos h] at hv; rw [← hv]; rfl
            · rw [if_neg h] at hv; exact hv)
          go_wp2_with fail
          refine bodyPost_ret (v := .tuple #[.string (⟨#[]⟩), .bool false]) (by simp [results, Tryd.results50, go_sem]) rfl ?_
          exact ⟨_, _, rfl, by rw [HE.out]; exact textR_no _, by decide, H0.out.2.trans (HH6.out.2.mono H0.out.2.size)⟩
        | some x =>
          simp only [Option.getD_some, Option.isSome_some]
          have hx64 := HS6.out x rfl
          by_cases hbig : 64 < acc.size
          · have hd : decide (64 < (acc.size : Int)) = true := decide_eq_true (by omega)
            have hd2 : 64 < (acc.size : Int) := by omega
            have HE := hide (show res = none by
              have hv := HQ.out
              unfold seqI at hv
              rw [if_neg (by omega)] at hv; exact hv)
            clear hbig
            go_wp2_with fail
            refine bodyPost_ret (v := .tuple #[.string (⟨#[]⟩), .bool false]) (by simp [results, Tryd.results50, go_sem]) rfl ?_
            exact ⟨_, _, rfl, by rw [HE.out]; exact textR_no _, by decide, H0.out.2.trans (HH6.out.2.mono H0.out.2.size)⟩
          · have hd : decide (64 < (acc.size : Int)) = false := decide_eq_false (by omega)
            have hd2 : ¬ 64 < (acc.size : Int) := by omega
            have HE := hide (show seqI (acc ++ x) (TL.onlys (l.drop (k + 1))) res by
              have hv := HQ.out
              unfold seqI at hv ⊢
              rw [if_pos (by omega), seqO] at hv
              by_cases h : 64 < (acc ++ x).size
              · rw [if_pos h] at hv; rw [if_neg (by omega), hv]
              · rw [if_neg h] at hv; rw [if_pos (by omega), hv])
            have HB := hide hbig
            clear hbig
            go_wp2_with fail
            go_roundw
            case rel => exact ⟨k + 1, acc ++ x, by go_num, rfl, hlt, by have := HB.out; rw [app_size]; omega, HE.out, HH6.out.1, HH6.out.2⟩
            case measure => simp [intOf]; omega
  · subst hk
    have hm1 := hmore rfl
    obtain ⟨s, r, rfl⟩ : ∃ s r, l = s :: r := by
      cases l with
      | nil => simp at hm1
      | cons s r => exact ⟨s, r, rfl⟩
    have HR := hide (show res = altO (s.only :: TL.onlys r) by rw [hres]; exact Hd.only_6 rfl _)
    have HS := hide hsz
    obtain ⟨b0, ofs0, B0, c0', e0, hbk0, hcs, hsub0⟩ := TL.In.at_ (i := 0) (T.In_iff.1 hin2) rfl
    subst e0
    have hn := hcs.node
    simp only [Nat.zero_mul, Nat.add_zero] at hn
    obtain ⟨n0, n1, n2, n3, n4, n5, n6, n7, n8, n9⟩ := hn
    have HX0 := hide (HIH.out s (by simp) B0 c0' _ hsub0)
    have hs0 := hsz s (by simp)
    generalize hlr : s :: r = l at *
    have hlen1 : 0 < l.length := by rw [← hlr]; simp
    have hdr1 : l.drop 1 = r := by rw [← hlr]; rfl
    have HL := hide hlr
    clear hres hmin hsz hmore hm1 hcs hsub0 hlr
    go_enter Tryd.func50, Tryd.ntmps50
    go_upto_region 1 with fail
    have A := (some (⟨b0, ofs0, none⟩ : Addr))
    generalize hW : (w.alloc (.cells #[.int .i64 6, .int .u64 s0, .int .u64 s1, .int .u64 s2, .int .u64 s3, .slice (some ⟨b0, ofs0, none⟩) l.length c, .int .i64 num, .int .i64 mn, .int .i64 mx, .bool bare] 27)) = W at *
    clear hW A
    go_wp2_with fail
    refine HX0.out.mono ?_
    rintro e w1 ⟨rfl, hb1⟩
    have H1 := hide (And.intro (H0.out.1.next hb1) (And.intro (H0.out.2.trans (hb1.mono H0.out.2.size)) hb1))
    have HIN := hide hin2
    clear hb1 HX0 c0 n0 n1 n2 n3 n4 n5 n6 n7 n8 n9 hin2
    have c0 := H1.out.1.cell
    have HRI := hide (show altI (s.only.getD ⟨#[]⟩) s.only.isSome (TL.onlys (l.drop 1)) = res by
      rw [HR.out, hdr1]
      cases ho : s.only with
      | none => exact altI_no _ _
      | some x =>
        show altI x true (TL.onlys r) = altO (some x :: TL.onlys r)
        unfold altI
        rw [altO]
        simp only [true_and])
    have h064 : (s.only.getD ⟨#[]⟩).size ≤ 64 := by
      cases ho : s.only with
      | none => decide
      | some x => exact hs0 x ho
    unfold optV
    clear HR hdr1 HL hs0
    generalize s.only.getD ⟨#[]⟩ = tv0 at *
    generalize s.only.isSome = ok0 at *
    go_wp2_with fail
    go_loopw [9, 10] (fun ov iv wr => ∃ (k : Nat) (ok : Bool), iv = .int .i64 (k : Int) ∧ ov = .bool ok ∧ 1 ≤ k ∧ k ≤ l.length ∧ altI tv0 ok (TL.onlys (l.drop k)) = res ∧ Blk wr w.heap.size 27 #[.int .i64 6, .int .u64 s0, .int .u64 s1, .int .u64 s2, .int .u64 s3, .slice (some ⟨b0, ofs0, none⟩) l.length c, .int .i64 num, .int .i64 mn, .int .i64 mx, .bool bare] ∧ Below W.heap.size W wr) (fun _ iv _ => l.length - (intOf iv).toNat)
    case atStart => exact ⟨1, ok0, rfl, rfl, Nat.le_refl _, hlen1, HRI.out, H1.out.1, H1.out.2.2⟩
    case round =>
      clear HRI c0
      obtain ⟨k, ok, rfl, rfl, hk1, hk, hinv, hbx, hbel⟩ := hrel
      have HH := hide (And.intro hbx hbel)
      have HV := hide hinv
      have hzb0 := hbx.lt
      have c0 := hbx.cell
      clear hinv
      by_cases hlt : k < l.length
      case neg =>
        have g1 : decide ((k : Int) < (l.length : Int)) = false := decide_eq_false (by omega)
        have hke : k = l.length := by omega
        have HE := hide (show textR res tv0 ok by
          have hv := HV.out
          rw [hke, List.drop_eq_nil_of_le (Nat.le_refl _)] at hv
          unfold textR
          rw [← hv]
          unfold altI
          cases ok <;> simp [TL.onlys, h064])
        clear hbx hbel hke
        go_wp2_with fail
        refine bodyPost_ret (v := .tuple #[.string (tv0), .bool ok]) (by simp [results, Tryd.results50, go_sem]) rfl ?_
        exact ⟨_, _, rfl, HE.out, by omega, H0.out.2.trans (HH.out.2.mono H0.out.2.size)⟩
      case pos =>
        have g1 : decide ((k : Int) < (l.length : Int)) = true := decide_eq_true (by omega)
        have hs := List.getElem?_eq_getElem hlt
        obtain ⟨b, ofs, B, c', eA, hbk, hcs, hsub⟩ := TL.In.at_ (T.In_iff.1 HIN.out) hs
        obtain ⟨rfl, rfl⟩ : b0 = b ∧ ofs0 = ofs := by
          have := Option.some.inj eA
          exact ⟨congrArg Addr.block this, congrArg Addr.off this⟩
        clear eA
        have hmem := List.getElem_mem hlt
        have hdrop : l.drop k = l[k] :: l.drop (k + 1) := List.drop_eq_getElem_cons hlt
        have heq := HV.out
        have HX := hide (fun (y : World) (hi : T.In y (· < y.heap.size) (l[k]'hlt) B) => HIH.out (l[k]'hlt) hmem B c' y hi)
        rw [hdrop, TL.onlys, altI_step] at heq
        generalize l[k] = s at *
        obtain ⟨n0, n1, n2, n3, n4, n5, n6, n7, n8, n9⟩ := (hcs.same (same_of_below hbel) hbk).node
        have HQ := hide heq
        have HI := hide (hsub.next hbel)
        clear hs hcs heq hdrop hmem hsub HV hbx hbel
        go_wp2_with fail
        refine (HX.out wr HI.out).mono ?_
        rintro e w6 ⟨rfl, hb6⟩
        have HH6 := hide (And.intro (HH.out.1.next hb6) (HH.out.2.trans (hb6.mono HH.out.2.size)))
        clear hb6 HX HI HH c0 n0 n1 n2 n3 n4 n5 n6 n7 n8 n9
        have c0 := HH6.out.1.cell
        unfold optV
        generalize s.only = so at *
        cases ok with
        | false =>
          have HE := hide (show altI tv0 false (TL.onlys (l.drop (k + 1))) = res by rw [← HQ.out]; rfl)
          go_wp2_with fail
          go_roundw
          case rel => exact ⟨k + 1, false, by go_num, rfl, by omega, hlt, HE.out, HH6.out.1, HH6.out.2⟩
          case measure => simp [intOf]; omega
        | true =>
          cases so with
          | none =>
            have HE := hide (show altI tv0 false (TL.onlys (l.drop (k + 1))) = res by rw [← HQ.out]; simp)
            go_wp2_with fail
            go_roundw
            case rel => exact ⟨k + 1, false, by go_num, rfl, by omega, hlt, HE.out, HH6.out.1, HH6.out.2⟩
            case measure => simp [intOf]; omega
          | some x =>
            simp only [Option.getD_some, Option.isSome_some]
            by_cases he : x = tv0
            · have q1 : (x.toList == tv0.toList) = true := by rw [toList_beq]; exact decide_eq_true he
              have HE := hide (show altI tv0 true (TL.onlys (l.drop (k + 1))) = res by rw [← HQ.out]; simp [he])
              clear he
              go_wp2_with fail
              go_roundw
              case rel => exact ⟨k + 1, true, by go_num, rfl, by omega, hlt, HE.out, HH6.out.1, HH6.out.2⟩
              case measure => simp [intOf]; omega
            · have q1 : (x.toList == tv0.toList) = false := by rw [toList_beq]; exact decide_eq_false he
              have HE := hide (show altI tv0 false (TL.onlys (l.drop (k + 1))) = res by rw [← HQ.out]; simp [he])
              clear he
              go_wp2_with fail
              go_roundw
              case rel => exact ⟨k + 1, false, by go_num, rfl, by omega, hlt, HE.out, HH6.out.1, HH6.out.2⟩
              case measure => simp [intOf]; omega
  · subst hk
    obtain ⟨s, rfl⟩ : ∃ s, l = [s] := by
      cases l with
      | nil => simp at hl1
      | cons s r => cases r with
        | nil => exact ⟨s, rfl⟩
        | cons _ _ => simp at hl1
    have HR := hide (show res = s.only by rw [hres]; exact Hd.only_7 rfl _)
    have HS := hide (hsz s (by simp))
    obtain ⟨b, ofs, B, c', rfl, hbk, hcs, hsub⟩ := TL.In.at_ (i := 0) (T.In_iff.1 hin2) rfl
    have hn := hcs.node
    simp only [Nat.zero_mul, Nat.add_zero] at hn
    obtain ⟨n0, n1, n2, n3, n4, n5, n6, n7, n8, n9⟩ := hn
    have HX := hide (HIH.out s (by simp) B c' _ hsub)
    clear hres hmin hin2 hsz hcs hsub HIH hmore
    simp only [List.length_cons, List.length_nil, Nat.zero_add] at *
    go_enter Tryd.func50, Tryd.ntmps50
    go_wp2_with fail
    refine HX.out.mono ?_
    rintro e w1 ⟨rfl, hb1⟩
    have H1 := hide (H0.out.2.trans (hb1.mono H0.out.2.size))
    clear hb1 HX H0 c0 n0 n1 n2 n3 n4 n5 n6 n7 n8 n9
    unfold optV
    go_wp2_with fail
    refine bodyPost_ret (v := .tuple #[.string (s.only.getD ⟨#[]⟩), .bool s.only.isSome]) (by simp [results, Tryd.results50, go_sem]) rfl ?_
    exact ⟨_, _, rfl, by rw [HR.out]; exact textR_opt HS.out, by
      cases ho : s.only with
      | none => decide
      | some x => have := HS.out x ho; show x.size ≤ 200; omega, H1.out⟩
  · subst hk
    obtain ⟨s, rfl⟩ : ∃ s, l = [s] := by
      cases l with
      | nil => simp at hl1
      | cons s r => cases r with
        | nil => exact ⟨s, rfl⟩
        | cons _ _ => simp at hl1
    have HR := hide (show res = if mx = 0 then some ⟨#[]⟩ else repO mn mx s.only by rw [hres]; exact Hd.only_8 rfl _)
    have HS := hide (hsz s (by simp))
    have hm := hmin rfl
    have hm0 := hm.1
    have hm1 := hm.2.1
    obtain ⟨b, ofs, B, c', rfl, hbk, hcs, hsub⟩ := TL.In.at_ (i := 0) (T.In_iff.1 hin2) rfl
    have hn := hcs.node
    simp only [Nat.zero_mul, Nat.add_zero] at hn
    obtain ⟨n0, n1, n2, n3, n4, n5, n6, n7, n8, n9⟩ := hn
    have HX := hide (HIH.out s (by simp) B c' _ hsub)
    clear hres hmin hin2 hsz hcs hsub HIH hmore hm
    simp only [List.length_cons, List.length_nil, Nat.zero_add] at *
    go_enter Tryd.func50, Tryd.ntmps50
    go_upto_region 1 with fail
    generalize (w.alloc (.cells #[.int .i64 8, .int .u64 s0, .int .u64 s1, .int .u64 s2, .int .u64 s3, .slice (some ⟨b, ofs, none⟩) 1 c, .int .i64 num, .int .i64 mn, .int .i64 mx, .bool bare] 27)) = W at *
    by_cases h0 : mx = 0
    · have hq : (mx == 0) = true := by simp [h0]
      have HM := hide h0
      clear h0
      go_wp2_with fail
      refine bodyPost_ret (v := .tuple #[.string (⟨#[]⟩), .bool true]) (by simp [results, Tryd.results50, go_sem]) rfl ?_
      exact ⟨_, _, rfl, by rw [HR.out, if_pos HM.out]; exact textR_yes (by decide), by decide, H0.out.2⟩
    · have hq : (mx == 0) = false := by rw [beq_eq_false_iff_ne]; exact h0
      have HM := hide h0
      clear h0
      go_wp2_with fail
      refine HX.out.mono ?_
      rintro e w1 ⟨rfl, hb1⟩
      have H1 := hide (And.intro (H0.out.1.next hb1) (H0.out.2.trans (hb1.mono H0.out.2.size)))
      clear hb1 HX c0 n0 n1 n2 n3 n4 n5 n6 n7 n8 n9
      have c1 := H1.out.1.cell
      unfold optV
      generalize s.only = so at *
      cases so with
      | none =>
        go_wp2_with fail
        refine bodyPost_ret (v := .tuple #[.string (⟨#[]⟩), .bool false]) (by simp [results, Tryd.results50, go_sem]) rfl ?_
        exact ⟨_, _, rfl, by rw [HR.out, if_neg HM.out]; exact textR_no _, by decide, H1.out.2⟩
      | some x =>
        simp only [Option.getD_some, Option.isSome_some]
        have hx64 := HS.out x rfl
        by_cases hz : x.size = 0
        · have hem : x.toList.isEmpty = true := by
            rw [size_zero hz, ByteArray.toList_eq]; rfl
          have HZ := hide hz
          clear hz
          go_wp2_with fail
          refine bodyPost_ret (v := .tuple #[.string (⟨#[]⟩), .bool true]) (by simp [results, Tryd.results50, go_sem]) rfl ?_
          exact ⟨_, _, rfl, by rw [HR.out, if_neg HM.out, repO, if_pos HZ.out]; exact textR_yes (by decide), by decide, H1.out.2⟩
        · have hem : x.toList.isEmpty = false := by
            rw [ByteArray.toList_eq]
            cases hl : x.data.toList with
            | nil =>
              have h3 : x.data.toList.length = x.size := by simp
              rw [hl, List.length_nil] at h3
              omega
            | cons _ _ => rfl
          have HZ := hide hz
          clear hz
          go_wp2_with fail
          go_loopw [15, 16] (fun tv0 iv wr => ∃ k : Nat, iv = .int .i64 (k : Int) ∧ tv0 = .string (rept x k) ∧ (k : Int) ≤ mn ∧ k * x.size ≤ 128 ∧ wr = w1) (fun _ iv _ => 300 - (intOf iv).toNat)
          case atStart => exact ⟨0, rfl, rfl, by omega, by omega, rfl⟩
          case round =>
            obtain ⟨k, rfl, rfl, hk, hkx, rfl⟩ := hrel
            have hsz := rept_size x k
            have hfin : ((k : Int) = mn ∨ 64 < k * x.size) → textR res (rept x k) (decide (mn = mx)) := fun hor => by
              rw [HR.out, if_neg HM.out, repO, if_neg HZ.out]
              unfold textR
              have hcnt : ((k * x.size : Nat) : Int) = (k : Int) * (x.size : Int) := Int.natCast_mul _ _
              have hle : (k : Int) * (x.size : Int) ≤ mn * (x.size : Int) := Int.mul_le_mul_of_nonneg_right hk (by omega)
              rcases hor with he | hb
              · have hmt : mn.toNat = k := by omega
                by_cases h1 : mx ≠ mn ∨ 64 < mn * (x.size : Int)
                · rw [if_pos h1, if_neg]
                  rintro ⟨h2, h3⟩
                  have h4 := of_decide_eq_true h2
                  rcases h1 with h5 | h5
                  · exact h5 h4.symm
                  · rw [← he] at h5; omega
                · rw [if_neg h1, hmt, if_pos]
                  refine ⟨decide_eq_true (Classical.byContradiction fun h => h1 (.inl fun h2 => h h2.symm)), ?_⟩
                  have : ¬ 64 < mn * (x.size : Int) := fun h => h1 (.inr h)
                  rw [← he] at this; omega
              · rw [if_neg (show ¬ (decide (mn = mx) = true ∧ (rept x k).size ≤ 64) by rintro ⟨_, h3⟩; omega), if_pos (show mx ≠ mn ∨ 64 < mn * (x.size : Int) from .inr (by omega))]
            have HF := hide hfin
            have hrs : ((rept x k).size : Int) = ((k * x.size : Nat) : Int) := by rw [hsz]
            clear hfin
            have hdm : (decide (mn = mx)) = (mn == mx) := by by_cases h : mn = mx <;> simp [h]
            by_cases hlt : (k : Int) < mn
            · have g1 : decide ((k : Int) < mn) = true := decide_eq_true hlt
              by_cases hle : k * x.size ≤ 64
              · have g2 : decide (((rept x k).size : Int) ≤ 64) = true := decide_eq_true (by omega)
                have g3 : ((rept x k).size : Int) ≤ 64 := by omega
                have g4 : (rept x k).size ≤ 64 := by omega
                have hsu := (rept_succ x k).symm
                have HB := hide (show (k + 1) * x.size ≤ 128 by rw [Nat.succ_mul]; omega)
                clear hle hkx hrs hsz hdm HF
                go_wp2_with fail
                go_roundw
                case rel => exact ⟨k + 1, by go_num, by rw [rept_succ], by omega, HB.out, trivial⟩
                case measure => simp [intOf]; omega
              · have g2 : decide (((rept x k).size : Int) ≤ 64) = false := decide_eq_false (by omega)
                have g3 : ¬ ((rept x k).size : Int) ≤ 64 := by omega
                have g4 : ¬ (rept x k).size ≤ 64 := by omega
                have HE := hide (HF.out (.inr (by omega)))
                have HB := hide (show (rept x k).size ≤ 200 by rw [hsz]; omega)
                have HDM := hide hdm
                clear hle hkx hrs hsz hdm HF
                go_wp2_with fail
                go_quiet (fail)
                go_wp2_with fail
                refine bodyPost_ret (v := .tuple #[.string (rept x k), .bool (mn == mx)]) (by simp [results, Tryd.results50, go_sem]) rfl ?_
                exact ⟨_, _, rfl, by rw [← HDM.out]; exact HE.out, HB.out, below_drewN H1.out.2 _⟩
            · have g1 : decide ((k : Int) < mn) = false := decide_eq_false hlt
              have HE := hide (HF.out (.inl (by omega)))
              have HB := hide (show (rept x k).size ≤ 200 by rw [hsz]; omega)
              have HDM := hide hdm
              clear hkx hrs hsz hdm HF
              go_wp2_with fail
              go_quiet (fail)
              go_wp2_with fail
              refine bodyPost_ret (v := .tuple #[.string (rept x k), .bool (mn == mx)]) (by simp [results, Tryd.results50, go_sem]) rfl ?_
              exact ⟨_, _, rfl, by rw [← HDM.out]; exact HE.out, HB.out, below_drewN H1.out.2 _⟩
set_option maxRecDepth 100000 in
set_option maxHeartbeats 1000000 in
theorem refOnly_any (N : Nat) : ∀ (t : T) (A : Option Addr) (c : Nat) (w : World), t.nodes ≤ N → N ≤ 1000000 → t.form = true → t.wf → T.In w (· < w.heap.size) t A →
    Calls Tryd.prog 18 #[.agg (t.hd.cells (.slice A t.subs.length c)).toArray] w fun e w' => e = .returned (optV t.only) ∧ Below w.heap.size w w' := by
  induction N with
  | zero => intro t A c w h; have := t.nodes_pos; omega
  | succ N ih =>
    intro t A c w hN hM hf hwf hin
    have hfs := T.form_mem_sub hf
    have hws := T.wf_sub hwf
    have HX := hide (fun (y : World) (hi : T.In y (· < y.heap.size) t A) => text_of t A c y (by omega) hf hwf hi (fun s hs B c' y2 hi2 => ih s B c' y2 (by have := T.subs_lt hs; omega) (by omega) (hfs s hs) (hws s hs) hi2))
    have HIN := hide (fun (y : World) (hy : Below w.heap.size w y) => hin.next hy)
    clear ih hin hf hwf hfs hws
    generalize t.only = res at *
    obtain ⟨h, l⟩ := t
    obtain ⟨kind, s0, s1, s2, s3, num, mn, mx, bare⟩ := h
    simp only [T.hd, T.subs, Hd.cells] at HX ⊢
    have hbel := (Below.refl w.heap.size w).alloc (Nat.le_refl _) (.cells #[.int .i64 kind, .int .u64 s0, .int .u64 s1, .int .u64 s2, .int .u64 s3, .slice A l.length c, .int .i64 num, .int .i64 mn, .int .i64 mx, .bool bare] 27)
    have hb0 := Blk.new w 27 #[.int .i64 kind, .int .u64 s0, .int .u64 s1, .int .u64 s2, .int .u64 s3, .slice A l.length c, .int .i64 num, .int .i64 mn, .int .i64 mx, .bool bare]
    have H0 := hide hbel
    have c0 := hb0.cell
    clear hb0 hbel
    go_enter Tryd.func18, Tryd.ntmps18
    go_upto_region 1 with fail
    generalize (w.alloc (.cells #[.int .i64 kind, .int .u64 s0, .int .u64 s1, .int .u64 s2, .int .u64 s3, .slice A l.length c, .int .i64 num, .int .i64 mn, .int .i64 mx, .bool bare] 27)) = W at *
    go_wp2_with fail
    refine (HX.out W (HIN.out W H0.out)).mono ?_
    rintro e w1 ⟨s, ok, rfl, hr, hs, hb1⟩
    have H1 := hide (H0.out.trans (hb1.mono H0.out.size))
    clear hb1 HX H0 c0 HIN
    have HR := hide hr
    clear hr
    cases ok with
    | false =>
      have HE := hide (show res = none by have := HR.out; unfold textR at this; rw [if_neg (by simp)] at this; exact this.symm)
      go_wp2_with fail
      refine bodyPost_ret (v := .tuple #[.string ⟨#[]⟩, .bool false]) (by simp [results, Tryd.results18, go_sem]) rfl ?_
      exact ⟨by rw [HE.out]; rfl, H1.out⟩
    | true =>
      by_cases hbig : 64 < s.size
      · have hd : decide (64 < (s.size : Int)) = true := decide_eq_true (by omega)
        have HE := hide (show res = none by have := HR.out; unfold textR at this; rw [if_neg (by omega)] at this; exact this.symm)
        clear hbig
        go_wp2_with fail
        refine bodyPost_ret (v := .tuple #[.string ⟨#[]⟩, .bool false]) (by simp [results, Tryd.results18, go_sem]) rfl ?_
        exact ⟨by rw [HE.out]; rfl, H1.out⟩
      · have hd : decide (64 < (s.size : Int)) = false := decide_eq_false (by omega)
        have HE := hide (show res = some s by have := HR.out; unfold textR at this; rw [if_pos ⟨rfl, by omega⟩] at this; exact this.symm)
        clear hbig
        go_wp2_with fail
        refine bodyPost_ret (v := .tuple #[.string s, .bool true]) (by simp [results, Tryd.results18, go_sem]) rfl ?_
        exact ⟨by rw [HE.out]; rfl, H1.out⟩
end Go.Proofs.YtbbhobojghmkpaaDoor

/-! ## RefReq20 -/
namespace Go.Proofs.YtbbhobojghmkpaaDoor
open Go.RowKit

theorem Tryd.infoString20 : (Tryd.prog.info? 9).map (fun i => (i.zero, i.size, i.bytes)) = some (some (.string ⟨#[]⟩), 1, 16) := by kernel_rfl
/-- The list v holds the texts l, in memory from block base on. -/
def OwnStrs (base : Nat) (w : World) (v : Value) (l : List ByteArray) : Prop := w.ownsRow base 9 1 v l.length (l.map Value.string)
section
variable {base : Nat} {w w' : World} {v : Value} {l : List ByteArray}
theorem OwnStrs.nil (base : Nat) (w : World) : OwnStrs base w (.slice none 0 0) [] := World.ownsRow_nil _ _ _ _
theorem OwnStrs.same {ok : Nat → Prop} (h : OwnStrs base w v l) (hs : Same ok w w') (hk : ∀ g, v.ownBlock = some g → ok g) : OwnStrs base w' v l := by
  refine ⟨h.1, ?_⟩
  rcases h.2 with h | ⟨g, cap, cur, e, hb, hg, r⟩
  · exact .inl h
  · exact .inr ⟨g, cap, cur, e, hb, (hs g (hk g (by rw [e]; rfl))).trans hg, r⟩
theorem OwnStrs.below {B : Nat} (h : OwnStrs base w v l) (hb : Below B w w') (hB : w.heap.size ≤ B) : OwnStrs base w' v l :=
  h.same (same_of_below hb) fun g hg => Nat.lt_of_lt_of_le (World.ownsRow.lt h g hg).2 hB
theorem OwnStrs.form (h : OwnStrs base w v l) : ∃ A c, v = .slice A l.length c ∧ l.length ≤ 9223372036854775807 ∧ (∀ i s, l[i]? = some s → ∃ g, A = some ⟨g, 0, none⟩ ∧ base ≤ g ∧ g < w.heap.size ∧ w.cell? ⟨g, i, none⟩ = some (.string s)) := by
  rcases h.2 with ⟨e, h0⟩ | ⟨g, cap, cur, e, hb, hg, hn, hc, _⟩
  · refine ⟨none, 0, by rw [e, h0], by omega, fun i n hi => ?_⟩
    rw [List.eq_nil_of_length_eq_zero h0] at hi
    simp at hi
  · refine ⟨some ⟨g, 0, none⟩, cap, e, by simp only [maxLen] at hc; omega, fun i n hi => ⟨g, rfl, hb, (World.ownsRow.lt h g (by rw [e]; rfl)).2, ?_⟩⟩
    have := World.ownsRow.cells h (g := g) (by rw [e]; rfl) i (.string n) (by rw [List.getElem?_map, hi]; rfl)
    rwa [Addr.add_lit, Nat.zero_add] at this
/-- The last text is made another one. -/
theorem OwnStrs.last {s : ByteArray} {L : List ByteArray} (h : OwnStrs base w v (L ++ [s])) : ∃ g c, v = .slice (some ⟨g, 0, none⟩) (L.length + 1) c ∧ base ≤ g ∧ g < w.heap.size ∧ w.cell? ⟨g, L.length, none⟩ = some (.string s) ∧ w.frozen? ⟨g, L.length, none⟩ = false ∧
    ∀ s' : ByteArray, OwnStrs base (w.setCell ⟨g, L.length, none⟩ (.string s')) v (L ++ [s']) := by
  rcases h.2 with ⟨e, h0⟩ | ⟨g, cap, cur, e, hb, hg, hn, hc, hsz, ht⟩
  · simp at h0
  · have hl : (L ++ [s]).length = L.length + 1 := by simp
    rw [hl] at e hn ht
    have hl' : ∀ s' : ByteArray, (L ++ [s']).length = L.length + 1 := fun s' => by simp
    have hgl := (World.ownsRow.lt h g (by rw [e]; rfl)).2
    have hcell := World.ownsRow.cells h (g := g) (by rw [e]; rfl) L.length (.string s) (by simp)
    rw [Addr.add_lit, Nat.zero_add] at hcell
    refine ⟨g, cap, e, hb, hgl, hcell, by simp [World.frozen?, hg], fun s' => ⟨by simp, .inr ⟨g, cap, cur.setIfInBounds L.length (.string s'), by rw [e]; simp, hb, ?_, by simpa using hn, hc, by simpa using hsz, ?_⟩⟩⟩
    · exact heap_setCell_same w g L.length _ _ (.string s') hg
    · have hlt : L.length < cur.size := by omega
      rw [Nat.mul_one] at ht
      obtain ⟨rest, hcl⟩ : ∃ r, cur.toList = L.map Value.string ++ ([Value.string s] ++ r) := ⟨cur.toList.drop (L.length + 1), (List.take_append_drop (L.length + 1) cur.toList).symm.trans (by rw [ht]; simp)⟩
      rw [Array.toList_setIfInBounds, hcl]
      have h1 : (L.map Value.string ++ ([Value.string s] ++ rest)).set L.length (Value.string s') = (L.map Value.string ++ [Value.string s']) ++ rest := by simp
      rw [h1, hl', Nat.mul_one]
      rw [List.take_left' (by simp)]
      simp
end
section
variable {w : World} {ops : Array Oper} {rest : List Oper} {o : Oper} {a : Act} {Q : Exit → Act → World → Prop}
theorem wpList_push_str (hgd : o.guard = none) (s x : Operand) (ho : o.op = .call { callee := .builtin .append, args := #[s, x], argTypes := #[69, 69] })
    (base : Nat) (v : Value) (l : List ByteArray) (hs : a.eval s = v) (hg : OwnStrs base w v l) (n : ByteArray) (g cap : Nat)
    (hx : a.eval x = .slice (some ⟨g, 0, none⟩) 1 cap) (hb : Blk w g 9 #[.string n]) (hl : l.length < 1000000) (hbase : base ≤ w.heap.size)
    (h : ∀ v' w', OwnStrs base w' v' (l ++ [n]) → w.grownBy w' v.ownBlock → wpList Tryd.prog ops Q rest (a.put o.dst v') w') : wpList Tryd.prog ops Q (o :: rest) a w := by
  obtain ⟨i, hi, hz0, hz1, hz2⟩ := info_parts Tryd.infoString20
  refine wpList_append_own_at w hgd s x 69 ho base 9 i _ 1 16 Tryd.underlying69 hi hz0 hz1 hz2 rfl (by decide) v l.length _ hs hg ⟨g, 0, none⟩ 1 cap [.string n] hx rfl ?_ (by simp [Value.oneCell']) (by simp only [maxLen]; omega) (by omega) hbase ?_
  · intro j u hu
    rw [Addr.add_lit, Nat.zero_add, hb.cell]
    simpa using hu
  intro v' w' hown hgr _ _
  refine h v' w' ?_ hgr
  simpa [OwnStrs] using hown
end
theorem lastB_app (L : List ByteArray) (s : ByteArray) : lastB (L ++ [s]) = s := by unfold lastB; simp
set_option maxRecDepth 100000 in
set_option maxHeartbeats 2000000 in
theorem cands_of (l : List T) (A : Option Addr) (c : Nat) (w : World) (hl : l.length ≤ 100000) (hin : TL.In w (· < w.heap.size) l A) (hs64 : ∀ s ∈ l, (∀ x, s.only = some x → x.size ≤ 64) ∧ s.req.size ≤ 64)
    (HO : ∀ s ∈ l, ∀ (B : Option Addr) (c' : Nat) (y : World), T.In y (· < y.heap.size) s B → Calls Tryd.prog 18 #[.agg (s.hd.cells (.slice B s.subs.length c')).toArray] y fun e w' => e = .returned (optV s.only) ∧ Below y.heap.size y w')
    (HR : ∀ s ∈ l, ∀ (B : Option Addr) (c' : Nat) (y : World), T.In y (· < y.heap.size) s B → Calls Tryd.prog 19 #[.agg (s.hd.cells (.slice B s.subs.length c')).toArray] y fun e w' => e = .returned (.string s.req) ∧ Below y.heap.size y w') :
    Calls Tryd.prog 51 #[.slice A l.length c] w fun e w' => ∃ v, e = .returned v ∧ OwnStrs w.heap.size w' v ((TL.reqs l).foldl cstep ([], false)).1 ∧ (∀ x ∈ ((TL.reqs l).foldl cstep ([], false)).1, x.size ≤ 64) ∧ ((TL.reqs l).foldl cstep ([], false)).1.length ≤ l.length ∧ Below w.heap.size w w' := by
  obtain ⟨res, hres⟩ : ∃ r, r = (TL.reqs l).foldl cstep ([], false) := ⟨_, rfl⟩
  rw [← hres]
  have HRES := hide hres
  clear hres
  have HIN := hide hin
  have HS := hide hs64
  have HOO := hide HO
  have HRR := hide HR
  clear hin hs64 HO HR
  go_enter Tryd.func51, Tryd.ntmps51
  go_wp2_with fail
  go_loopw [3, 4, 5] (fun sv0 ov kv wr => ∃ (k : Nat) (L : List ByteArray) (op : Bool), kv = .int .i64 (k : Int) ∧ ov = .bool op ∧ k ≤ l.length ∧ L.length ≤ k ∧ (∀ x ∈ L, x.size ≤ 64) ∧ (op = true → ∃ L0 s0, L = L0 ++ [s0]) ∧ (TL.reqs (l.drop k)).foldl cstep (L, op) = res ∧ OwnStrs w.heap.size wr sv0 L ∧ Below w.heap.size w wr) (fun _ _ kv _ => l.length - (intOf kv).toNat)
  case atStart => exact ⟨0, [], false, rfl, rfl, Nat.zero_le _, Nat.le_refl _, by simp, fun h => (by cases h), HRES.out.symm, OwnStrs.nil _ _, Below.refl _ _⟩
  case round =>
    obtain ⟨k, L, op, rfl, rfl, hk, hLk, hL64, hop, hinv, hown, hbel⟩ := hrel
    have HH := hide (And.intro hown hbel)
    have HV := hide hinv
    have HL := hide hL64
    have HP := hide hop
    clear hinv hL64 hop
    by_cases hlt : k < l.length
    case neg =>
      have g1 : decide ((k : Int) < (l.length : Int)) = false := decide_eq_false (by omega)
      have hke : k = l.length := by omega
      have HE := hide (show res = (L, op) by rw [← HV.out, hke, List.drop_eq_nil_of_le (Nat.le_refl _)]; rfl)
      obtain ⟨A2, c2, rfl, _, _⟩ := hown.form
      clear hbel hown hke
      go_wp2_with fail
      go_ret
      exact ⟨_, rfl, by rw [HE.out]; exact HH.out.1, by rw [HE.out]; exact HL.out, by rw [HE.out]; show L.length ≤ l.length; omega, HH.out.2⟩
    case pos =>
      have g1 : decide ((k : Int) < (l.length : Int)) = true := decide_eq_true (by omega)
      have hs := List.getElem?_eq_getElem hlt
      obtain ⟨b, ofs, B, c', rfl, hbk, hcs, hsub⟩ := TL.In.at_ HIN.out hs
      have hmem := List.getElem_mem hlt
      have hdrop : l.drop k = l[k] :: l.drop (k + 1) := List.drop_eq_getElem_cons hlt
      have heq := HV.out
      have hs64 := HS.out (l[k]'hlt) hmem
      have HX := hide (fun (y : World) (hi : T.In y (· < y.heap.size) (l[k]'hlt) B) => HOO.out (l[k]'hlt) hmem B c' y hi)
      have HY := hide (fun (y : World) (hi : T.In y (· < y.heap.size) (l[k]'hlt) B) => HRR.out (l[k]'hlt) hmem B c' y hi)
      rw [hdrop, TL.reqs, List.foldl_cons] at heq
      generalize l[k] = s at *
      have hnode := fun (y : World) (hy : Below w.heap.size w y) => (hcs.same (same_of_below hy) hbk).node
      obtain ⟨n0, n1, n2, n3, n4, n5, n6, n7, n8, n9⟩ := hnode wr hbel
      have HNO := hide hnode
      have HQ := hide heq
      have HSUB := hide hsub
      obtain ⟨A2, c2, rfl, _, _⟩ := hown.form
      clear hs hcs heq hdrop hmem hsub HV hbel hown hnode
      go_wp2_with fail
      refine (HX.out wr (HSUB.out.next HH.out.2)).mono ?_
      rintro e w6 ⟨rfl, hb6⟩
      have HH6 := hide (And.intro (HH.out.1.below hb6 (Nat.le_refl _)) (HH.out.2.trans (hb6.mono HH.out.2.size)))
      clear hb6 HX HH n0 n1 n2 n3 n4 n5 n6 n7 n8 n9
      unfold optV
      have HS6 := hide hs64
      clear hs64
      generalize s.only = so at *
      cases so with
      | none =>
        obtain ⟨n0, n1, n2, n3, n4, n5, n6, n7, n8, n9⟩ := HNO.out w6 HH6.out.2
        go_wp2_with fail
        refine (HY.out w6 (HSUB.out.next HH6.out.2)).mono ?_
        rintro e w7 ⟨rfl, hb7⟩
        have HH7 := hide (And.intro (HH6.out.1.below hb7 (Nat.le_refl _)) (HH6.out.2.trans (hb7.mono HH6.out.2.size)))
        clear hb7 HY HH6 n0 n1 n2 n3 n4 n5 n6 n7 n8 n9
        have hzb := Blk.new w7 9 #[.string s.req]
        have hal := (Below.refl w7.heap.size w7).alloc (Nat.le_refl _) (.cells #[.string s.req] 9)
        have hz7 := HH7.out.2.size
        go_wp2_with (at_builtin; refine wpList_push_str rfl _ _ rfl w.heap.size _ L rfl (HH7.out.1.below hal (Nat.le_refl _)) s.req w7.heap.size 1 rfl hzb (by omega) (by simp; omega) ?_)
        intro v' w8 hown8 hgr8
        have HH8 := hide (And.intro hown8 (below_grew (HH7.out.2.trans (hal.mono hz7)) hgr8 (Nat.le_refl _) (fun q hq => (World.ownsRow.lt HH7.out.1 q hq).1)))
        obtain ⟨A3, c3, rfl, _, _⟩ := hown8.form
        clear hown8 hgr8 hzb hal hz7 HH7
        go_wp2_with fail
        go_roundw
        case rel => exact ⟨k + 1, L ++ [s.req], false, by go_num, rfl, hlt, by simp; omega, fun x hx => (List.mem_append.1 hx).elim (HL.out x) (fun h => by rw [List.mem_singleton.1 h]; exact HS6.out.2), fun h => (by cases h), by rw [← HQ.out]; rfl, by simpa using HH8.out.1, HH8.out.2⟩
        case measure => simp [intOf]; omega
      | some x =>
        simp only [Option.getD_some, Option.isSome_some]
        have hx64 := HS6.out.1 x rfl
        have push : ∀ (hE : (TL.reqs (l.drop (k + 1))).foldl cstep (L ++ [x], true) = res), True := fun _ => trivial
        cases op with
        | false =>
          have HE := hide (show (TL.reqs (l.drop (k + 1))).foldl cstep (L ++ [x], true) = res by rw [← HQ.out, cstep]; simp)
          have hzb := Blk.new w6 9 #[.string x]
          have hal := (Below.refl w6.heap.size w6).alloc (Nat.le_refl _) (.cells #[.string x] 9)
          have hz6 := HH6.out.2.size
          go_wp2_with (at_builtin; refine wpList_push_str rfl _ _ rfl w.heap.size _ L rfl (HH6.out.1.below hal (Nat.le_refl _)) x w6.heap.size 1 rfl hzb (by omega) (by simp; omega) ?_)
          intro v' w8 hown8 hgr8
          have HH8 := hide (And.intro hown8 (below_grew (HH6.out.2.trans (hal.mono hz6)) hgr8 (Nat.le_refl _) (fun q hq => (World.ownsRow.lt HH6.out.1 q hq).1)))
          obtain ⟨A3, c3, rfl, _, _⟩ := hown8.form
          clear hown8 hgr8 hzb hal hz6 HH6
          go_wp2_with fail
          go_roundw
          case rel => exact ⟨k + 1, L ++ [x], true, by go_num, rfl, hlt, by simp; omega, fun y hy => (List.mem_append.1 hy).elim (HL.out y) (fun h => by rw [List.mem_singleton.1 h]; exact hx64), fun _ => ⟨L, x, rfl⟩, HE.out, by simpa using HH8.out.1, HH8.out.2⟩
          case measure => simp [intOf]; omega
        | true =>
          obtain ⟨L0, s0, rfl⟩ := HP.out rfl
          have hL0 := HL.out s0 (by simp)
          obtain ⟨g, c5, ev, hgw, hg6, hcell, hfro, hset⟩ := HH6.out.1.last
          injection ev with e1 e2 e3
          subst e1
          subst e3
          have hln : (L0 ++ [s0]).length = L0.length + 1 := by simp
          have hwl : IntKind.i64.wrap ((L0.length : Int) + 1 - 1) = (L0.length : Int) := by simp [IntKind.wrap, IntKind.bits, IntKind.signed]; omega
          have hwl2 : IntKind.i64.wrap (L0.length : Int) = (L0.length : Int) := by simp [IntKind.wrap, IntKind.bits, IntKind.signed]; omega
          have hws : IntKind.i64.wrap ((s0.size : Int) + (x.size : Int)) = (s0.size : Int) + (x.size : Int) := by simp [IntKind.wrap, IntKind.bits, IntKind.signed]; omega
          have hix : (0 : Int) ≤ (L0.length : Int) ∧ (L0.length : Int) < ((L0.length + 1 : Nat) : Int) := by omega
          have HSET := hide hset
          have HO6 := hide (show OwnStrs w.heap.size w6 (.slice (some ⟨g, 0, none⟩) (L0.length + 1) c2) (L0 ++ [s0]) by have := HH6.out.1; rw [hln] at this; exact this)
          have HB6 := hide HH6.out.2
          have hlk : L0.length + 1 ≤ k := by omega
          rw [hln]
          clear hset e2 HH6
          by_cases hfit : s0.size + x.size ≤ 64
          · have hd : decide ((s0.size : Int) + (x.size : Int) ≤ 64) = true := decide_eq_true (by omega)
            have hd2 : (s0.size : Int) + (x.size : Int) ≤ 64 := by omega
            have HE := hide (show (TL.reqs (l.drop (k + 1))).foldl cstep (L0 ++ [s0 ++ x], true) = res by
              rw [← HQ.out, cstep]
              simp only [lastB_app]
              rw [if_pos ⟨trivial, hfit⟩]
              simp)
            clear hfit
            go_wp2_with fail
            go_roundw
            case rel => exact ⟨k + 1, L0 ++ [s0 ++ x], true, by go_num, rfl, hlt, by simp; omega, fun y hy => (List.mem_append.1 hy).elim (fun h => HL.out y (by simp [h])) (fun h => by rw [List.mem_singleton.1 h, app_size]; omega), fun _ => ⟨L0, s0 ++ x, rfl⟩, HE.out, by have := HSET.out (s0 ++ x); rw [hln] at this; exact this, HB6.out.setCell hgw _⟩
            case measure => simp [intOf]; omega
          · have hd : decide ((s0.size : Int) + (x.size : Int) ≤ 64) = false := decide_eq_false (by omega)
            have hd2 : ¬ (s0.size : Int) + (x.size : Int) ≤ 64 := by omega
            have HE := hide (show (TL.reqs (l.drop (k + 1))).foldl cstep (L0 ++ [s0] ++ [x], true) = res by
              rw [← HQ.out, cstep]
              simp only [lastB_app]
              rw [if_neg (fun h => hfit h.2)])
            clear hfit
            have hzb := Blk.new w6 9 #[.string x]
            have hal := (Below.refl w6.heap.size w6).alloc (Nat.le_refl _) (.cells #[.string x] 9)
            have hz6 := HB6.out.size
            go_wp2_with (at_builtin; refine wpList_push_str rfl _ _ rfl w.heap.size _ (L0 ++ [s0]) rfl (HO6.out.below hal (Nat.le_refl _)) x w6.heap.size 1 rfl hzb (by simp; omega) (by simp; omega) ?_)
            intro v' w8 hown8 hgr8
            have HH8 := hide (And.intro hown8 (below_grew (HB6.out.trans (hal.mono hz6)) hgr8 (Nat.le_refl _) (fun q hq => (World.ownsRow.lt HO6.out q hq).1)))
            obtain ⟨A3, c3, rfl, _, _⟩ := hown8.form
            clear hown8 hgr8 hzb hal hz6
            go_wp2_with fail
            go_roundw
            case rel => exact ⟨k + 1, L0 ++ [s0] ++ [x], true, by go_num, rfl, hlt, by simp; omega, fun y hy => (List.mem_append.1 hy).elim (HL.out y) (fun h => by rw [List.mem_singleton.1 h]; exact hx64), fun _ => ⟨L0 ++ [s0], x, rfl⟩, HE.out, by simpa using HH8.out.1, HH8.out.2⟩
            case measure => simp [intOf]; omega
set_option maxRecDepth 100000 in
set_option maxHeartbeats 4000000 in
theorem refReq_any (N : Nat) : ∀ (t : T) (A : Option Addr) (c : Nat) (w : World), t.nodes ≤ N → N ≤ 100000 → t.form = true → t.wf → T.In w (· < w.heap.size) t A →
    Calls Tryd.prog 19 #[.agg (t.hd.cells (.slice A t.subs.length c)).toArray] w fun e w' => e = .returned (.string t.req) ∧ Below w.heap.size w w' := by
  induction N with
  | zero => intro t A c w h; have := t.nodes_pos; omega
  | succ N ih =>
    intro t A c w hN hM hf hwf hin
    have hkind := T.form_kind hf
    have hfs := T.form_mem_sub hf
    have hws := T.wf_sub hwf
    have hmin := fun hk => T.form_min (h := t.hd) (l := t.subs) (by rw [T.eta]; exact hf) hk
    have HOnly := hide (fun (y : World) (hi : T.In y (· < y.heap.size) t A) => refOnly_any (N + 1) t A c y hN (by omega) hf hwf hi)
    have hrs := @T.req_some t
    have hrn := fun h => T.req_none (hd := t.hd) (l := t.subs) (by rw [T.eta]; exact h)
    rw [T.eta] at hrn
    obtain ⟨h, l⟩ := t
    have hsz := TL.only_size l (T.form_sub hf)
    have hrz := TL.req_size l (T.form_sub hf)
    have hlen0 := T.length_lt (T.mk h l)
    obtain ⟨res, hres⟩ : ∃ r, r = (T.mk h l).req := ⟨_, rfl⟩
    rw [← hres] at hrn ⊢
    simp only [← hres] at hrs
    clear hres
    generalize (T.mk h l).only = so at *
    obtain ⟨kind, s0, s1, s2, s3, num, mn, mx, bare⟩ := h
    simp only [T.nodes, T.hd, T.subs, Hd.cells] at hlen0 hN hkind hfs hws hrn hmin HOnly ⊢
    have hbel := (Below.refl w.heap.size w).alloc (Nat.le_refl _) (.cells #[.int .i64 kind, .int .u64 s0, .int .u64 s1, .int .u64 s2, .int .u64 s3, .slice A l.length c, .int .i64 num, .int .i64 mn, .int .i64 mx, .bool bare] 27)
    have hb0 := Blk.new w 27 #[.int .i64 kind, .int .u64 s0, .int .u64 s1, .int .u64 s2, .int .u64 s3, .slice A l.length c, .int .i64 num, .int .i64 mn, .int .i64 mx, .bool bare]
    have H0 := hide (And.intro hb0 hbel)
    have hin2 := hin.next hbel
    have c0 := hb0.cell
    have HIO := hide (fun (s : T) (hs : s ∈ l) (B : Option Addr) (c' : Nat) (y : World) (hi : T.In y (· < y.heap.size) s B) => refOnly_any N s B c' y (by have := TL.nodes_mem hs; omega) (by omega) (hfs s hs) (hws s hs) hi)
    have HIR := hide (fun (s : T) (hs : s ∈ l) (B : Option Addr) (c' : Nat) (y : World) (hi : T.In y (· < y.heap.size) s B) => ih s B c' y (by have := TL.nodes_mem hs; omega) (by omega) (hfs s hs) (hws s hs) hi)
    have hon := HOnly.out _ hin2
    clear ih hf hwf hin hfs hws hb0 hbel HOnly
    have HON := hide hon
    clear hon
    go_enter Tryd.func19, Tryd.ntmps19
    go_upto_region 1 with fail
    generalize (w.alloc (.cells #[.int .i64 kind, .int .u64 s0, .int .u64 s1, .int .u64 s2, .int .u64 s3, .slice A l.length c, .int .i64 num, .int .i64 mn, .int .i64 mx, .bool bare] 27)) = W at *
    go_wp2_with fail
    refine HON.out.mono ?_
    rintro e w1 ⟨rfl, hb1⟩
    have H1 := hide (And.intro (H0.out.1.next hb1) (And.intro (H0.out.2.trans (hb1.mono H0.out.2.size)) (hin2.next hb1)))
    clear hb1 HON H0 hin2 c0
    have c0 := H1.out.1.cell
    unfold optV
    cases so with
    | some x =>
      have HE := hide (hrs rfl)
      clear hrs hrn hkind
      go_wp2_with fail
      refine bodyPost_ret (v := .string x) (by simp [results, Tryd.results19, go_sem]) rfl ?_
      exact ⟨by rw [HE.out], H1.out.2.1⟩
    | none =>
      have HE := hide (hrn rfl)
      clear hrs hrn
      rcases hkind with hk | hk | hk | hk | hk | hk | ⟨hk, hl1⟩ | ⟨hk, hl1⟩
      · subst hk
        have HF := hide (show res = ⟨#[]⟩ by rw [HE.out, reqK_o (by decide)])
        clear HE
        go_wp2_with fail
        refine bodyPost_ret (v := .string ⟨#[]⟩) (by simp [results, Tryd.results19, go_sem]) rfl ?_
        exact ⟨by rw [HF.out], H1.out.2.1⟩
      · subst hk
        have HF := hide (show res = ⟨#[]⟩ by rw [HE.out, reqK_o (by decide)])
        clear HE
        go_wp2_with fail
        refine bodyPost_ret (v := .string ⟨#[]⟩) (by simp [results, Tryd.results19, go_sem]) rfl ?_
        exact ⟨by rw [HF.out], H1.out.2.1⟩
      · subst hk
        have HF := hide (show res = ⟨#[]⟩ by rw [HE.out, reqK_o (by decide)])
        clear HE
        go_wp2_with fail
        refine bodyPost_ret (v := .string ⟨#[]⟩) (by simp [results, Tryd.results19, go_sem]) rfl ?_
        exact ⟨by rw [HF.out], H1.out.2.1⟩
      · subst hk
        have HF := hide (show res = ⟨#[]⟩ by rw [HE.out, reqK_o (by decide)])
        clear HE
        go_wp2_with fail
        refine bodyPost_ret (v := .string ⟨#[]⟩) (by simp [results, Tryd.results19, go_sem]) rfl ?_
        exact ⟨by rw [HF.out], H1.out.2.1⟩
      · subst hk
        have HF := hide (show res = ((TL.reqs l).foldl cstep ([], false)).1.foldl keepB ⟨#[]⟩ by
          rw [HE.out, reqK_5, long_cands]
          intro x hx s hs
          rw [TL.reqs_map] at hx
          obtain ⟨t, ht, rfl⟩ := List.mem_map.1 hx
          exact hsz t ht s hs)
        have HL := hide (cands_of l A c w1 (by omega) (T.In_iff.1 H1.out.2.2) (fun s hs => ⟨hsz s hs, hrz s hs⟩) (fun s hs B c' y hi => HIO.out s hs B c' y hi) (fun s hs B c' y hi => HIR.out s hs B c' y hi))
        clear HE hsz hrz HIO HIR
        generalize ((TL.reqs l).foldl cstep ([], false)).1 = L at *
        go_wp2_with fail
        refine HL.out.mono ?_
        rintro e w2 ⟨v, rfl, hown, hL64, hLl, hb2⟩
        have H2 := hide (H1.out.2.1.trans (hb2.mono H1.out.2.1.size))
        obtain ⟨A2, c2, rfl, _, hcel⟩ := hown.form
        have HC := hide hcel
        have HL64 := hide hL64
        clear hb2 HL hown hcel hL64 c0
        go_wp2_with fail
        go_loopw [6, 7] (fun bv iv wr => ∃ (k : Nat) (best : ByteArray), iv = .int .i64 (k : Int) ∧ bv = .string best ∧ k ≤ L.length ∧ best.size ≤ 64 ∧ (L.drop k).foldl keepB best = res ∧ wr = w2) (fun _ iv _ => L.length - (intOf iv).toNat)
        case atStart => exact ⟨0, ⟨#[]⟩, rfl, rfl, Nat.zero_le _, by decide, HF.out.symm, rfl⟩
        case round =>
          obtain ⟨k, best, rfl, rfl, hk, hb64, hinv, rfl⟩ := hrel
          have HV := hide hinv
          clear hinv
          by_cases hlt : k < L.length
          case neg =>
            have g1 : decide ((k : Int) < (L.length : Int)) = false := decide_eq_false (by omega)
            have HEE := hide (show res = best by rw [← HV.out, List.drop_eq_nil_of_le (by omega)]; rfl)
            go_wp2_with fail
            refine bodyPost_ret (v := .string best) (by simp [results, Tryd.results19, go_sem]) rfl ?_
            exact ⟨by rw [HEE.out], H2.out⟩
          case pos =>
            have g1 : decide ((k : Int) < (L.length : Int)) = true := decide_eq_true (by omega)
            have hs := List.getElem?_eq_getElem hlt
            obtain ⟨g, rfl, hg1, hg2, hcell⟩ := HC.out k _ hs
            have hx64 := HL64.out (L[k]'hlt) (List.getElem_mem hlt)
            have heq := HV.out
            rw [List.drop_eq_getElem_cons hlt, List.foldl_cons] at heq
            have HQ := hide heq
            clear heq hs HV
            generalize L[k] = x at *
            by_cases hbig : best.size < x.size
            · have hd : decide ((best.size : Int) < (x.size : Int)) = true := decide_eq_true (by omega)
              have hd2 : (best.size : Int) < (x.size : Int) := by omega
              have HEE := hide (show (L.drop (k + 1)).foldl keepB x = res by rw [← HQ.out, keepB, if_pos hbig])
              go_wp2_with fail
              go_roundw
              case rel => exact ⟨k + 1, x, by go_num, rfl, hlt, hx64, HEE.out, trivial⟩
              case measure => simp [intOf]; omega
            · have hd : decide ((best.size : Int) < (x.size : Int)) = false := decide_eq_false (by omega)
              have hd2 : ¬ (best.size : Int) < (x.size : Int) := by omega
              have HEE := hide (show (L.drop (k + 1)).foldl keepB best = res by rw [← HQ.out, keepB, if_neg hbig])
              go_wp2_with fail
              go_roundw
              case rel => exact ⟨k + 1, best, by go_num, rfl, hlt, hb64, HEE.out, trivial⟩
              case measure => simp [intOf]; omega
      · subst hk
        have HF := hide (show res = ⟨#[]⟩ by rw [HE.out, reqK_o (by decide)])
        clear HE
        go_wp2_with fail
        refine bodyPost_ret (v := .string ⟨#[]⟩) (by simp [results, Tryd.results19, go_sem]) rfl ?_
        exact ⟨by rw [HF.out], H1.out.2.1⟩
      · subst hk
        obtain ⟨s, rfl⟩ : ∃ s, l = [s] := by
          cases l with
          | nil => simp at hl1
          | cons s r => cases r with
            | nil => exact ⟨s, rfl⟩
            | cons _ _ => simp at hl1
        have HF := hide (show res = s.req by rw [HE.out, reqK_7]; rfl)
        clear HE hmin
        obtain ⟨b, ofs, B, c', rfl, hbk, hcs, hsub⟩ := TL.In.at_ (i := 0) (T.In_iff.1 H1.out.2.2) rfl
        have hn := hcs.node
        simp only [Nat.zero_mul, Nat.add_zero] at hn
        obtain ⟨n0, n1, n2, n3, n4, n5, n6, n7, n8, n9⟩ := hn
        have HX := hide (HIR.out s (by simp) B c' _ hsub)
        clear hsz hrz hcs hsub HIO HIR
        simp only [List.length_cons, List.length_nil, Nat.zero_add] at *
        go_wp2_with fail
        refine HX.out.mono ?_
        rintro e w2 ⟨rfl, hb2⟩
        have H2 := hide (H1.out.2.1.trans (hb2.mono H1.out.2.1.size))
        clear hb2 HX c0 n0 n1 n2 n3 n4 n5 n6 n7 n8 n9
        go_wp2_with fail
        refine bodyPost_ret (v := .string s.req) (by simp [results, Tryd.results19, go_sem]) rfl ?_
        exact ⟨by rw [HF.out], H2.out⟩
      · subst hk
        obtain ⟨s, rfl⟩ : ∃ s, l = [s] := by
          cases l with
          | nil => simp at hl1
          | cons s r => cases r with
            | nil => exact ⟨s, rfl⟩
            | cons _ _ => simp at hl1
        have hm0' := (hmin rfl).1
        clear hmin
        by_cases hm0 : mn = 0
        · have HF := hide (show res = ⟨#[]⟩ by rw [HE.out, reqK_8z hm0])
          have hq : decide (0 < mn) = false := decide_eq_false (by omega)
          have hq2 : ¬ 0 < mn := by omega
          clear HE hm0 hm0'
          go_wp2_with fail
          refine bodyPost_ret (v := .string ⟨#[]⟩) (by simp [results, Tryd.results19, go_sem]) rfl ?_
          exact ⟨by rw [HF.out], H1.out.2.1⟩
        · have HF := hide (show res = s.req by rw [HE.out, reqK_8 hm0]; rfl)
          have hq : decide (0 < mn) = true := decide_eq_true (by omega)
          have hq2 : 0 < mn := by omega
          clear HE hm0 hm0'
          obtain ⟨b, ofs, B, c', rfl, hbk, hcs, hsub⟩ := TL.In.at_ (i := 0) (T.In_iff.1 H1.out.2.2) rfl
          have hn := hcs.node
          simp only [Nat.zero_mul, Nat.add_zero] at hn
          obtain ⟨n0, n1, n2, n3, n4, n5, n6, n7, n8, n9⟩ := hn
          have HX := hide (HIR.out s (by simp) B c' _ hsub)
          clear hsz hrz hcs hsub HIO HIR
          simp only [List.length_cons, List.length_nil, Nat.zero_add] at *
          go_wp2_with fail
          refine HX.out.mono ?_
          rintro e w2 ⟨rfl, hb2⟩
          have H2 := hide (H1.out.2.1.trans (hb2.mono H1.out.2.1.size))
          clear hb2 HX c0 n0 n1 n2 n3 n4 n5 n6 n7 n8 n9
          go_wp2_with fail
          refine bodyPost_ret (v := .string s.req) (by simp [results, Tryd.results19, go_sem]) rfl ?_
          exact ⟨by rw [HF.out], H2.out⟩
end Go.Proofs.YtbbhobojghmkpaaDoor

/-! ## RefFirsts20 -/
namespace Go.Proofs.YtbbhobojghmkpaaDoor
open Go.RowKit

set_option maxRecDepth 100000 in
set_option maxHeartbeats 1500000 in
theorem refFirsts_any (t : T) (A : Option Addr) (c : Nat) (w : World) (hN : t.nodes ≤ 900000) (hwf : t.wf) (hck : t.check = none) (hin : T.In w (· < w.heap.size) t A) :
    Calls Tryd.prog 23 #[.agg (t.hd.cells (.slice A t.subs.length c)).toArray] w fun e w' => e = .returned (.tuple #[setV t.firsts, .bool t.mayNull]) ∧ Below w.heap.size w w' := by
  have HO := hide (fun (y : World) (hy : Below w.heap.size w y) => of17All_any t A c y hN (T.check_none hck).1 (T.check_none hck).2 (hin.next hy))
  have hfine := t.laid_fine hwf hck
  have hpl : t.exp.posits = t.exp.laid := posits_laid (T.exp_three t (T.check_none hck).1)
  obtain ⟨F, hF⟩ : ∃ F, F = t.firsts := ⟨_, rfl⟩
  obtain ⟨nb, hnb⟩ : ∃ n, n = t.mayNull := ⟨_, rfl⟩
  rw [← hF, ← hnb]
  unfold T.firsts at hF
  unfold T.mayNull at hnb
  unfold PositsMade at HO
  rw [hpl] at HO
  generalize t.exp.laid = P at *
  rw [hck] at hF hnb
  simp only at hF hnb
  have HFI := hide hfine
  clear hin hwf hck hpl hfine
  obtain ⟨h, l⟩ := t
  obtain ⟨kind, s0, s1, s2, s3, num, mn, mx, bare⟩ := h
  simp only [T.hd, T.subs, Hd.cells] at HO ⊢
  have hbel := ((Below.refl w.heap.size w).alloc (Nat.le_refl _) (.cells #[.int .i64 kind, .int .u64 s0, .int .u64 s1, .int .u64 s2, .int .u64 s3, .slice A l.length c, .int .i64 num, .int .i64 mn, .int .i64 mx, .bool bare] 27)).alloc (by simp) (.cells #[.int .u64 0, .int .u64 0, .int .u64 0, .int .u64 0] 24)
  have hb0 := (Blk.new w 27 #[.int .i64 kind, .int .u64 s0, .int .u64 s1, .int .u64 s2, .int .u64 s3, .slice A l.length c, .int .i64 num, .int .i64 mn, .int .i64 mx, .bool bare]).alloc (.cells #[.int .u64 0, .int .u64 0, .int .u64 0, .int .u64 0] 24)
  have hb1 := Blk.new (w.alloc (.cells #[.int .i64 kind, .int .u64 s0, .int .u64 s1, .int .u64 s2, .int .u64 s3, .slice A l.length c, .int .i64 num, .int .i64 mn, .int .i64 mx, .bool bare] 27)) 24 #[.int .u64 0, .int .u64 0, .int .u64 0, .int .u64 0]
  rw [World.size_alloc] at hb1
  have H0 := hide (And.intro hb0 (And.intro hb1 hbel))
  have c0 := hb0.cell
  clear hb0 hb1 hbel
  go_enter Tryd.func23, Tryd.ntmps23
  go_upto_region 1 with fail
  generalize ((w.alloc (.cells #[.int .i64 kind, .int .u64 s0, .int .u64 s1, .int .u64 s2, .int .u64 s3, .slice A l.length c, .int .i64 num, .int .i64 mn, .int .i64 mx, .bool bare] 27)).alloc (.cells #[.int .u64 0, .int .u64 0, .int .u64 0, .int .u64 0] 24)) = W at *
  go_wp2_with fail
  refine (HO.out W H0.out.2.2).mono ?_
  rintro e w1 ⟨⟨pas, paf, pal, paw, pcs, pcf, pcl, pcw⟩, rfl, hpi, hb1⟩
  have hpi1 : PoIn (· < w1.heap.size) w1 P ⟨pas, paf, pal, paw, pcs, pcf, pcl, pcw⟩ := hpi.same (Same.refl _ _) fun b hb => hb.2
  simp only [Po.cells]
  have H1 := hide (And.intro (H0.out.2.1.nxt hb1) (And.intro (H0.out.2.2.trans (hb1.mono H0.out.2.2.size)) hpi1))
  have hz1 := hb1.size
  have hz0 := H0.out.2.1.lt
  clear hb1 HO H0 c0 hpi hpi1
  go_upto_region 2 with fail
  have hbp := Blk.new w1 75 #[.slice pas P.sets.length pcs, .int .i64 P.null, .slice paf P.first.length pcf, .slice pal P.last.length pcl, .slice paw P.follow.length pcw]
  have hal := (Below.refl w1.heap.size w1).alloc (Nat.le_refl _) (.cells #[.slice pas P.sets.length pcs, .int .i64 P.null, .slice paf P.first.length pcf, .slice pal P.last.length pcl, .slice paw P.follow.length pcw] 75)
  generalize (w1.alloc (.cells #[.slice pas P.sets.length pcs, .int .i64 P.null, .slice paf P.first.length pcf, .slice pal P.last.length pcl, .slice paw P.follow.length pcw] 75)) = w2 at *
  have H2 := hide (And.intro (H1.out.1.nxt hal) (And.intro (H1.out.2.1.trans (hal.mono H1.out.2.1.size)) (And.intro (H1.out.2.2.next hal) hbp)))
  have hgp := hbp.lt
  have hg12 : w.heap.size + 1 < w1.heap.size := by omega
  clear hbp hal H1 hz1 hz0
  generalize w1.heap.size = gp at *
  go_upto_region 3 with fail
  have hbs := Blk.new w2 24 #[.int .u64 0, .int .u64 0, .int .u64 0, .int .u64 0]
  have hbn := (Below.refl w2.heap.size w2).alloc (Nat.le_refl _) (.cells #[.int .u64 0, .int .u64 0, .int .u64 0, .int .u64 0] 24)
  generalize (w2.alloc (.cells #[.int .u64 0, .int .u64 0, .int .u64 0, .int .u64 0] 24)) = w3 at *
  rw [← set_none] at hbs
  have H3 := hide (And.intro hbs hbn)
  clear hbs hbn
  go_wp2_with fail
  go_loopw [6] (fun kv wr => ∃ (k : Nat) (S : Nat → Bool), kv = .int .i64 (k : Int) ∧ k ≤ P.first.length ∧ firstsF P.sets (P.first.drop k) S = F ∧ Blk wr w2.heap.size 24 (setC S).toArray ∧ Below w2.heap.size w2 wr) (fun kv _ => P.first.length - (intOf kv).toNat)
  case atStart => exact ⟨0, fun _ => false, rfl, Nat.zero_le _, hF.symm, H3.out.1, H3.out.2⟩
  case round =>
    clear H3
    obtain ⟨k, S, rfl, hk, hinv, hbs, hbel⟩ := hrel
    have HH := hide (And.intro hbs hbel)
    have HV := hide hinv
    have hzs := hbs.lt
    have cp := (H2.out.2.2.2.nxt hbel).cell
    clear hinv
    by_cases hlt : k < P.first.length
    case neg =>
      have g1 : decide ((k : Int) < (P.first.length : Int)) = false := decide_eq_false (by omega)
      have g1n : ¬ k < P.first.length := hlt
      have HE := hide (show F = S by rw [← HV.out, List.drop_eq_nil_of_le (by omega)]; rfl)
      have hq : (P.null == 0) = decide (P.null = 0) := by by_cases h : P.null = 0 <;> simp [h]
      clear hbs hbel
      go_upto_region 7 with fail
      clear cp
      refine wp_region_mix (fun z => Blk z w2.heap.size 24 (setC S).toArray ∧ Blk z gp 75 #[.slice pas P.sets.length pcs, .int .i64 P.null, .slice paf P.first.length pcf, .slice pal P.last.length pcl, .slice paw P.follow.length pcw]) [] (by kernel_rfl) (fun hcl => ?_)
      have hSb : Below wr.heap.size wr wr.drew := (Below.refl _ _).drew
      have hS : Blk wr.drew w2.heap.size 24 (setC S).toArray ∧ Blk wr.drew gp 75 #[.slice pas P.sets.length pcs, .int .i64 P.null, .slice paf P.first.length pcf, .slice pal P.last.length pcl, .slice paw P.follow.length pcw] := ⟨HH.out.1.nxt hSb, (H2.out.2.2.2.nxt HH.out.2).nxt hSb⟩
      have hB2 : Blk wr.drew (w.heap.size + 1) 24 #[.int .u64 0, .int .u64 0, .int .u64 0, .int .u64 0] := (H2.out.1.nxt HH.out.2).nxt hSb
      have hBw : Below w.heap.size w wr.drew := (H2.out.2.1.trans (HH.out.2.mono H2.out.2.1.size)).trans (hSb.mono (by have := H2.out.2.1.size; have := HH.out.2.size; omega))
      refine wpAnyT_take (i := 0) hcl rfl (by kernel_rfl) (v := ?_) (fun _ _ _ h => h) hS (Or.inl ⟨rfl, fun w' hS => ?_⟩) (fun hcl => ?_)
      rotate_left
      · skip
        have cb : ∀ i : Nat, _ = _ := hS.1.cell
        simp only [setC] at cb
        go_simp
        with_reducible rfl
      simp only [List.getElem_toArray, List.getElem_cons_zero, List.getElem_cons_succ, Act.put, List.setIfInBounds_toArray, List.set_cons_zero, List.set_cons_succ]
      refine wpAnyT_free (i := 1) hcl rfl (by kernel_rfl) (v := ?_) (fun _ _ _ h => h) hS (Or.inl ⟨rfl, fun w' _ => ?_⟩) (fun hcl => ?_)
      rotate_left
      · go_simp
        with_reducible rfl
      simp only [List.getElem_toArray, List.getElem_cons_zero, List.getElem_cons_succ, Act.put, List.setIfInBounds_toArray, List.set_cons_zero, List.set_cons_succ]
      refine wpAnyT_take (i := 2) hcl rfl (by kernel_rfl) (v := ?_) (fun _ _ _ h => h) hS (Or.inl ⟨rfl, fun w' hS => ?_⟩) (fun hcl => ?_)
      rotate_left
      · skip
        have cb := hS.2.cell
        go_simp
        with_reducible rfl
      simp only [List.getElem_toArray, List.getElem_cons_zero, List.getElem_cons_succ, Act.put, List.setIfInBounds_toArray, List.set_cons_zero, List.set_cons_succ]
      refine wpAnyT_free (i := 3) hcl rfl (by kernel_rfl) (v := ?_) (fun _ _ _ h => h) hS (Or.inl ⟨rfl, fun w' _ => ?_⟩) (fun hcl => ?_)
      rotate_left
      · go_simp
        with_reducible rfl
      simp only [List.getElem_toArray, List.getElem_cons_zero, List.getElem_cons_succ, Act.put, List.setIfInBounds_toArray, List.set_cons_zero, List.set_cons_succ]
      refine wpAnyT_step (i := 4) hcl rfl (by kernel_rfl) (fun hcl => ?_)
      simp only [List.getElem_toArray, List.getElem_cons_zero, List.getElem_cons_succ, Act.put, List.setIfInBounds_toArray, List.set_cons_zero, List.set_cons_succ]
      refine wpList_store_row rfl _ _ _ rfl (w.heap.size + 1) 0 _ _ _ rfl rfl hB2 Tryd.sizeSetO (by simp) (by simp [Value.oneCell']) ?_
      intro w9 hrow2 hg9 hz9
      refine wpList_nil ?_
      have hrow := hrow2.out
      rw [splice_full (by rfl)] at hrow
      have hb9 := below_grew hBw hg9 (Nat.le_refl _) (fun q hq => by rw [← Option.some.inj hq]; omega)
      have hS2 := hS
      clear hS
      have hS : Blk w9 w2.heap.size 24 (setC S).toArray ∧ Blk w9 gp 75 #[.slice pas P.sets.length pcs, .int .i64 P.null, .slice paf P.first.length pcf, .slice pal P.last.length pcl, .slice paw P.follow.length pcw] := ⟨hS2.1.grown hg9 (fun e => by have := Option.some.inj e; omega), hS2.2.grown hg9 (fun e => by have := Option.some.inj e; omega)⟩
      refine ⟨hS, ?_⟩
      have HF9 := hide (And.intro (show Blk w9 (w.heap.size + 1) 24 (setC S).toArray from hrow) hb9)
      clear hrow hrow2 hg9 hz9 hb9 hS2 hB2 hBw
      refine wpAnyT_free (i := 5) hcl rfl (by kernel_rfl) (v := ?_) (fun _ _ _ h => h) hS (Or.inl ⟨rfl, fun w' _ => ?_⟩) (fun hcl => ?_)
      rotate_left
      · go_simp
        with_reducible rfl
      simp only [List.getElem_toArray, List.getElem_cons_zero, List.getElem_cons_succ, Act.put, List.setIfInBounds_toArray, List.set_cons_zero, List.set_cons_succ]
      clear hS
      refine wpAnyT_done (by kernel_rfl) ?_ _
      go_wp2_with fail
      have c9 : ∀ i : Nat, _ = _ := HF9.out.1.cell
      simp only [setC] at c9
      refine bodyPost_ret (v := .tuple #[setV S, .bool (P.null != 0)]) (by unfold setV setC; simp [results, Tryd.results23, go_sem, c9]) rfl ?_
      exact ⟨by rw [HE.out, hnb]; simp [bne, hq], HF9.out.2⟩
    case pos =>
      have g1 : decide ((k : Int) < (P.first.length : Int)) = true := decide_eq_true (by omega)
      have hs := List.getElem?_eq_getElem hlt
      have hdrop : P.first.drop k = P.first[k] :: P.first.drop (k + 1) := List.drop_eq_getElem_cons hlt
      have heq := HV.out
      rw [hdrop, firstsF] at heq
      obtain ⟨bf, of, ef, hbf, hcf⟩ := LIn.at_ H2.out.2.2.1.first hs
      have hok := HFI.out.2.1.first.at_ hs
      generalize P.first[k] = ed at *
      have HQ := hide heq
      clear hs hdrop heq HV
      obtain ⟨tz, wy⟩ := ed
      have hto0 := hok.1
      have hto1 := hok.2.1
      obtain ⟨tn, rfl⟩ : ∃ n : Nat, tz = (n : Int) := ⟨tz.toNat, by simp only at hto0; omega⟩
      simp only at hto1
      have htn : tn < P.sets.length := by omega
      have hs2 := List.getElem?_eq_getElem htn
      obtain ⟨bs, os, es, hbs2, hcs⟩ := LIn.at_ H2.out.2.2.1.sets hs2
      have hse := se_cells (HFI.out.1.sets _ (List.getElem_mem htn))
      have hgd : P.sets.getD tn (0, 0, 0, 0) = P.sets[tn] := by rw [List.getD_eq_getElem?_getD, hs2]; rfl
      simp only [Int.toNat_natCast, hgd] at HQ
      generalize P.sets[tn] = se at *
      rw [hse] at hcs
      generalize seSet se = T1 at *
      simp only at ef es
      subst ef es
      have HCF := hide (fun (y : World) (hy : Below w2.heap.size w2 y) => hcf.same (same_of_below hy) hbf)
      have HCS := hide (fun (y : World) (hy : Below w2.heap.size w2 y) => hcs.same (same_of_below hy) hbs2)
      clear hs2 hcf hcs hse hgd hok hto0 hbs hbel
      go_upto_region 6 with fail
      clear cp
      have hik : (0 : Int) ≤ (k : Int) ∧ (k : Int) < (P.first.length : Int) := by omega
      have hix : (0 : Int) ≤ (tn : Int) ∧ (tn : Int) < (P.sets.length : Int) := by omega
      refine wp_region_mix (fun z => Below wr.heap.size wr z) [12] (by kernel_rfl) (fun hcl => ?_)
      have hS : Below wr.heap.size wr wr.drew := (Below.refl _ _).drew
      generalize wr.drew = wD at *
      refine wpAnyT_take (i := 0) hcl rfl (by kernel_rfl) (v := ?_) (fun _ _ _ h => h) hS (Or.inl ⟨rfl, fun w' hS => ?_⟩) (fun hcl => ?_)
      rotate_left
      · skip
        have cb : ∀ i : Nat, _ = _ := (HH.out.1.nxt hS).cell
        simp only [setC] at cb
        go_simp
        with_reducible rfl
      simp only [List.getElem_toArray, List.getElem_cons_zero, List.getElem_cons_succ, Act.put, List.setIfInBounds_toArray, List.set_cons_zero, List.set_cons_succ]
      refine wpAnyT_free (i := 1) hcl rfl (by kernel_rfl) (v := ?_) (fun _ _ _ h => h) hS (Or.inl ⟨rfl, fun w' _ => ?_⟩) (fun hcl => ?_)
      rotate_left
      · go_simp
        with_reducible rfl
      simp only [List.getElem_toArray, List.getElem_cons_zero, List.getElem_cons_succ, Act.put, List.setIfInBounds_toArray, List.set_cons_zero, List.set_cons_succ]
      refine wpAnyT_take (i := 2) hcl rfl (by kernel_rfl) (v := ?_) (fun _ _ _ h => h) hS (Or.inl ⟨rfl, fun w' hS => ?_⟩) (fun hcl => ?_)
      rotate_left
      · skip
        have cb := ((H2.out.2.2.2.nxt HH.out.2).nxt hS).cell
        go_simp
        with_reducible rfl
      simp only [List.getElem_toArray, List.getElem_cons_zero, List.getElem_cons_succ, Act.put, List.setIfInBounds_toArray, List.set_cons_zero, List.set_cons_succ]
      refine wpAnyT_free (i := 3) hcl rfl (by kernel_rfl) (v := ?_) (fun _ _ _ h => h) hS (Or.inl ⟨rfl, fun w' _ => ?_⟩) (fun hcl => ?_)
      rotate_left
      · go_simp
        with_reducible rfl
      simp only [List.getElem_toArray, List.getElem_cons_zero, List.getElem_cons_succ, Act.put, List.setIfInBounds_toArray, List.set_cons_zero, List.set_cons_succ]
      refine wpAnyT_take (i := 4) hcl rfl (by kernel_rfl) (v := ?_) (fun _ _ _ h => h) hS (Or.inl ⟨rfl, fun w' hS => ?_⟩) (fun hcl => ?_)
      rotate_left
      · skip
        have cb := ((H2.out.2.2.2.nxt HH.out.2).nxt hS).cell
        go_simp
        with_reducible rfl
      simp only [List.getElem_toArray, List.getElem_cons_zero, List.getElem_cons_succ, Act.put, List.setIfInBounds_toArray, List.set_cons_zero, List.set_cons_succ]
      refine wpAnyT_free (i := 5) hcl rfl (by kernel_rfl) (v := ?_) (fun _ _ _ h => h) hS (Or.inl ⟨rfl, fun w' _ => ?_⟩) (fun hcl => ?_)
      rotate_left
      · go_simp
        with_reducible rfl
      simp only [List.getElem_toArray, List.getElem_cons_zero, List.getElem_cons_succ, Act.put, List.setIfInBounds_toArray, List.set_cons_zero, List.set_cons_succ]
      refine wpAnyT_free (i := 6) hcl rfl (by kernel_rfl) (v := ?_) (fun _ _ _ h => h) hS (Or.inl ⟨rfl, fun w' _ => ?_⟩) (fun hcl => ?_)
      rotate_left
      · go_simp
        with_reducible rfl
      simp only [List.getElem_toArray, List.getElem_cons_zero, List.getElem_cons_succ, Act.put, List.setIfInBounds_toArray, List.set_cons_zero, List.set_cons_succ]
      refine wpAnyT_free (i := 7) hcl rfl (by kernel_rfl) (v := ?_) (fun _ _ _ h => h) hS (Or.inl ⟨rfl, fun w' _ => ?_⟩) (fun hcl => ?_)
      rotate_left
      · go_simp
        with_reducible rfl
      simp only [List.getElem_toArray, List.getElem_cons_zero, List.getElem_cons_succ, Act.put, List.setIfInBounds_toArray, List.set_cons_zero, List.set_cons_succ]
      refine wpAnyT_take (i := 8) hcl rfl (by kernel_rfl) (v := ?_) (fun _ _ _ h => h) hS (Or.inl ⟨rfl, fun w' hS => ?_⟩) (fun hcl => ?_)
      rotate_left
      · skip
        have hy := HH.out.2.trans (hS.mono HH.out.2.size)
        have q0 := HCF.out w' hy 0 _ rfl
        rw [Addr.add_lit] at q0
        simp only [Nat.add_zero] at q0
        go_simp
        with_reducible rfl
      simp only [List.getElem_toArray, List.getElem_cons_zero, List.getElem_cons_succ, Act.put, List.setIfInBounds_toArray, List.set_cons_zero, List.set_cons_succ]
      refine wpAnyT_free (i := 9) hcl rfl (by kernel_rfl) (v := ?_) (fun _ _ _ h => h) hS (Or.inl ⟨rfl, fun w' _ => ?_⟩) (fun hcl => ?_)
      rotate_left
      · go_simp
        with_reducible rfl
      simp only [List.getElem_toArray, List.getElem_cons_zero, List.getElem_cons_succ, Act.put, List.setIfInBounds_toArray, List.set_cons_zero, List.set_cons_succ]
      refine wpAnyT_take (i := 10) hcl rfl (by kernel_rfl) (v := ?_) (fun _ _ _ h => h) hS (Or.inl ⟨rfl, fun w' hS => ?_⟩) (fun hcl => ?_)
      rotate_left
      · skip
        have hy := HH.out.2.trans (hS.mono HH.out.2.size)
        have q0 := HCS.out w' hy 0 _ rfl
        have q1 := HCS.out w' hy 1 _ rfl
        have q2 := HCS.out w' hy 2 _ rfl
        have q3 := HCS.out w' hy 3 _ rfl
        rw [Addr.add_lit] at q0 q1 q2 q3
        simp only [Nat.add_zero] at q0
        go_simp
        with_reducible rfl
      simp only [List.getElem_toArray, List.getElem_cons_zero, List.getElem_cons_succ, Act.put, List.setIfInBounds_toArray, List.set_cons_zero, List.set_cons_succ]
      refine wpAnyT_step (i := 11) hcl rfl (by kernel_rfl) (fun hcl => ?_)
      simp only [List.getElem_toArray, List.getElem_cons_zero, List.getElem_cons_succ, Act.put, List.setIfInBounds_toArray, List.set_cons_zero, List.set_cons_succ]
      have hj := refJoin_any S T1 wD
      obtain ⟨S9, hS9⟩ : ∃ X, X = (fun x => S x || T1 x) := ⟨_, rfl⟩
      rw [← hS9] at hj
      have HS9 := hide hS9
      clear hS9
      simp only [setV, setC] at hj
      go_wp2_with fail
      refine hj.mono ?_
      rintro e wF ⟨rfl, hb3⟩
      clear hj
      have hS2 := hS.trans (hb3.mono hS.size)
      clear hS
      have hS := hS2
      unfold setV setC
      go_wp2_with fail
      refine ⟨hS, ?_⟩
      have HSF := hide hS
      clear hS2 hb3 hS
      refine wpAnyT_last (i := 12) hcl rfl (by kernel_rfl) (by kernel_rfl) (fun hcl => ?_)
      simp only [List.getElem_toArray, List.getElem_cons_zero, List.getElem_cons_succ, Act.put, List.setIfInBounds_toArray, List.set_cons_zero, List.set_cons_succ]
      refine wpList_store_row rfl _ _ _ rfl w2.heap.size 0 _ _ _ rfl rfl (HH.out.1.nxt HSF.out) Tryd.sizeSetO (by simp; exact Nat.le_of_eq rfl) (by simp [Value.oneCell', setC]) ?_
      intro w9 hrow2 hg9 hz9
      refine wpList_nil ?_
      have hrow := hrow2.out
      rw [splice_full (by rfl)] at hrow
      have H9 := hide (And.intro (show Blk w9 w2.heap.size 24 (setC S9).toArray from hrow) (below_grew (HH.out.2.trans (HSF.out.mono HH.out.2.size)) hg9 (Nat.le_refl _) (fun q hq => by rw [← Option.some.inj hq]; exact Nat.le_refl _)))
      clear hrow hrow2 hg9 hz9
      have hnf : P.first.length ≤ 9223372036854775807 := HFI.out.1.nf
      refine wpAnyT_done (by kernel_rfl) ?_ _
      go_wp2_with fail
      go_roundw
      case rel => exact ⟨k + 1, S9, by go_num, hlt, by rw [HS9.out]; exact HQ.out, H9.out.1, H9.out.2⟩
      case measure => simp [intOf]; omega
end Go.Proofs.YtbbhobojghmkpaaDoor

/-! ## RefNext20 -/
namespace Go.Proofs.YtbbhobojghmkpaaDoor
open Go.RowKit
end Go.Proofs.YtbbhobojghmkpaaDoor
