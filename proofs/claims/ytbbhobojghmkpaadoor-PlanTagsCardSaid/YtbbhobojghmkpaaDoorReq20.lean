/- need.longest, need.required, need.Only, need.Required. (Printed by gen_req20.py.) -/
import Derived.Test.YtbbhobojghmkpaaDoorOnly20
set_option linter.unusedSimpArgs false
set_option linter.unusedVariables false
namespace Go.Proofs.YtbbhobojghmkpaaDoor
open Go.RowKit

theorem hmf (fn : Fn) (first cap : Array Value) (w : World) : (Instr.makeFunc fn first cap).run Tryd.prog w = .ok (.func fn first cap) w := rfl
set_option maxRecDepth 100000 in
set_option maxHeartbeats 400000 in
/-- The closure of longest: the longer one is kept. -/
theorem keep_any (b s : ByteArray) (g : Nat) (w : World) (hb : Blk w g 9 #[.string b]) (h1 : b.size ≤ 64) (h2 : s.size ≤ 64) : Calls Tryd.prog 110 #[.string s, .pointer (some ⟨g, 0, none⟩)] w fun e w' => e = .returned (.tuple #[]) ∧ Blk w' g 9 #[.string (keepB b s)] ∧ w.grownBy w' (some g) ∧ w'.heap.size = w.heap.size := by
  have c0 : ∀ i : Nat, _ = _ := hb.cell
  have f0 : ∀ i : Nat, _ = _ := hb.frozen
  have HB := hide hb
  unfold keepB
  by_cases h : b.size < s.size
  · rw [if_pos h]
    have hd : decide ((b.size : Int) < (s.size : Int)) = true := decide_eq_true (by omega)
    clear hb
    go_enter Tryd.func110, Tryd.ntmps110
    go_wp2_with fail
    go_end0
    refine ⟨rfl, ?_, ⟨rfl, rfl, rfl, by simp, fun k _ hk => Below.heap_setCell _ _ _ _ (fun e => hk (by rw [e]))⟩, by simp⟩
    have := heap_setCell_same w g 0 _ _ (.string s) HB.out
    exact this
  · rw [if_neg h]
    have hd : decide ((b.size : Int) < (s.size : Int)) = false := decide_eq_false (by omega)
    clear hb
    go_enter Tryd.func110, Tryd.ntmps110
    go_wp2_with fail
    go_end0
    exact ⟨rfl, HB.out, ⟨rfl, rfl, rfl, Nat.le_refl _, fun _ _ _ => rfl⟩, rfl⟩
set_option maxRecDepth 100000 in
set_option maxHeartbeats 2000000 in
theorem longest_of (l : List T) (A : Option Addr) (c : Nat) (w : World) (hT : Tab w) (hl : l.length ≤ 1000000) (hin : TL.In w (· < w.heap.size) l A) (hs64 : ∀ s ∈ l, (∀ x, s.only = some x → x.size ≤ 64) ∧ s.req.size ≤ 64)
    (HO : ∀ s ∈ l, ∀ (B : Option Addr) (c' : Nat) (y : World), Tab y → T.In y (· < y.heap.size) s B → Calls Tryd.prog 45 #[.agg (s.hd.cells (.slice B s.subs.length c')).toArray] y fun e w' => e = .returned (optV s.only) ∧ Below y.heap.size y w')
    (HR : ∀ s ∈ l, ∀ (B : Option Addr) (c' : Nat) (y : World), Tab y → T.In y (· < y.heap.size) s B → Calls Tryd.prog 46 #[.agg (s.hd.cells (.slice B s.subs.length c')).toArray] y fun e w' => e = .returned (.string s.req) ∧ Below y.heap.size y w') :
    Calls Tryd.prog 83 #[.slice A l.length c] w fun e w' => e = .returned (.string (longP (TL.reqs l))) ∧ Below w.heap.size w w' := by
  obtain ⟨res, hres⟩ : ∃ r, r = longP (TL.reqs l) := ⟨_, rfl⟩
  rw [← hres]
  have HRES := hide hres
  clear hres
  have hbel := (Below.refl w.heap.size w).alloc (Nat.le_refl _) (.cells #[.string ⟨#[]⟩] 9)
  have hb0 := Blk.new w 9 #[.string ⟨#[]⟩]
  have H0 := hide (And.intro hb0 (And.intro hbel (hT.below hbel)))
  have HIN := hide hin
  have HS := hide hs64
  have HOO := hide HO
  have HRR := hide HR
  have hm := hmf
  have hT0 := hT
  clear hb0 hbel hin hs64 HO HR hT
  go_enter Tryd.func83, Tryd.ntmps83
  go_wp2_with fail
  generalize (w.alloc (.cells #[.string ⟨#[]⟩] 9)) = W at *
  have hgw := H0.out.1.lt
  have HT := hide (fun y (hy : Below w.heap.size w y) => hT0.below hy)
  clear hT0
  go_loopw [4, 13] (fun rv kv wr => ∃ (k : Nat) (best row : ByteArray), kv = .int .i64 (k : Int) ∧ rv = .string row ∧ k ≤ l.length ∧ best.size ≤ 64 ∧ row.size ≤ 64 ∧ (TL.reqs (l.drop k)).foldl lstep (best, row) = (TL.reqs l).foldl lstep (⟨#[]⟩, ⟨#[]⟩) ∧ Blk wr w.heap.size 9 #[.string best] ∧ Below w.heap.size w wr) (fun _ kv _ => l.length - (intOf kv).toNat)
  case atStart => exact ⟨0, ⟨#[]⟩, ⟨#[]⟩, rfl, rfl, Nat.zero_le _, by decide, by decide, rfl, H0.out.1, H0.out.2.1⟩
  case round =>
    clear H0 hgw
    obtain ⟨k, best, row, rfl, rfl, hk, hbest, hrow64, hinv, hbx, hbel⟩ := hrel
    have HH := hide (And.intro hbx hbel)
    have HV := hide hinv
    have hzb0 := hbx.lt
    clear hinv
    by_cases hlt : k < l.length
    case neg =>
      have g1 : decide ((k : Int) < (l.length : Int)) = false := decide_eq_false (by omega)
      have hke : k = l.length := by omega
      have HE := hide (show res = keepB best row by rw [HRES.out, longP, ← HV.out, hke, List.drop_eq_nil_of_le (Nat.le_refl _)]; rfl)
      clear hbx hbel hke
      go_wp2_with fail
      refine (keep_any best row w.heap.size _ HH.out.1 hbest hrow64).mono ?_
      rintro e w7 ⟨rfl, hb7, hg7, hz7⟩
      have H7 := hide (And.intro hb7 (below_grew HH.out.2 hg7 (Nat.le_refl _) (fun q hq => by rw [← Option.some.inj hq]; exact Nat.le_refl _)))
      clear hb7 hg7 hz7 HH
      have c7 : ∀ i : Nat, _ = _ := H7.out.1.cell
      go_wp2_with fail
      go_ret
      exact ⟨by rw [HE.out]; rfl, H7.out.2⟩
    case pos =>
      have g1 : decide ((k : Int) < (l.length : Int)) = true := decide_eq_true (by omega)
      have hs := List.getElem?_eq_getElem hlt
      obtain ⟨b, ofs, B, c', rfl, hbk, hcs, hsub⟩ := TL.In.at_ HIN.out hs
      have hmem := List.getElem_mem hlt
      have hdrop : l.drop k = l[k] :: l.drop (k + 1) := List.drop_eq_getElem_cons hlt
      have heq := HV.out
      have hs64 := HS.out (l[k]'hlt) hmem
      have HX := hide (fun (y : World) (hy : Tab y) (hi : T.In y (· < y.heap.size) (l[k]'hlt) B) => HOO.out (l[k]'hlt) hmem B c' y hy hi)
      have HY := hide (fun (y : World) (hy : Tab y) (hi : T.In y (· < y.heap.size) (l[k]'hlt) B) => HRR.out (l[k]'hlt) hmem B c' y hy hi)
      rw [hdrop, TL.reqs, List.foldl_cons] at heq
      generalize l[k] = s at *
      obtain ⟨n0, n1, n2, n3, n4, n5, n6, n7, n8, n9⟩ := (hcs.same (same_of_below hbel) hbk).node
      have HQ := hide heq
      have HSUB := hide hsub
      have hzb := Blk.new wr 27 zeroCells
      have hal := (Below.refl wr.heap.size wr).alloc (Nat.le_refl _) (.cells zeroCells 27)
      unfold zeroCells at hzb hal
      clear hs hcs heq hdrop hmem hsub HV hbx hbel
      go_wp2_with (first | refine wpList_store_row rfl _ _ _ rfl wr.heap.size 0 _ _ _ rfl rfl hzb Tryd.sizeNode (by simp) (by simp [Value.oneCell']) ?_)
      intro w5 hrow2 hg9 hz9
      have hrow := hrow2.out
      rw [splice_full (by rfl)] at hrow
      have hbE : Below wr.heap.size wr w5 := below_grew hal hg9 (Nat.le_refl _) (fun q hq => by rw [← Option.some.inj hq]; exact Nat.le_refl _)
      have c5 := hrow.cell
      have HH5 := hide (And.intro (HH.out.1.next hbE) (And.intro (HH.out.2.trans (hbE.mono HH.out.2.size)) hrow))
      clear hrow2 hrow hg9 hz9 hal hzb hbE n0 n1 n2 n3 n4 n5 n6 n7 n8 n9 HH
      go_wp2_with fail
      refine (HX.out w5 (HT.out w5 HH5.out.2.1) (HSUB.out.next HH5.out.2.1)).mono ?_
      rintro e w6 ⟨rfl, hb6⟩
      have HH6 := hide (And.intro (HH5.out.1.next hb6) (And.intro (HH5.out.2.1.trans (hb6.mono HH5.out.2.1.size)) (HH5.out.2.2.next hb6)))
      clear hb6 HX HH5 c5
      unfold optV
      have HS6 := hide hs64
      clear hs64
      generalize s.only = so at *
      cases so with
      | none =>
        go_wp2_with fail
        refine (keep_any best row w.heap.size _ HH6.out.1 hbest hrow64).mono ?_
        rintro e w7 ⟨rfl, hb7, hg7, hz7⟩
        have H7 := hide (And.intro hb7 (And.intro (below_grew HH6.out.2.1 hg7 (Nat.le_refl _) (fun q hq => by rw [← Option.some.inj hq]; exact Nat.le_refl _)) (HH6.out.2.2.grown hg7 (fun e => by have := Option.some.inj e; omega))))
        clear hb7 hg7 hz7 HH6
        have c7 := H7.out.2.2.cell
        go_wp2_with fail
        refine (HY.out w7 (HT.out w7 H7.out.2.1) (HSUB.out.next H7.out.2.1)).mono ?_
        rintro e w8 ⟨rfl, hb8⟩
        have H8 := hide (And.intro (H7.out.1.next hb8) (H7.out.2.1.trans (hb8.mono H7.out.2.1.size)))
        clear hb8 HY H7 c7
        go_wp2_with fail
        refine (keep_any _ s.req w.heap.size _ H8.out.1 (keepB_size hbest hrow64) HS6.out.2).mono ?_
        rintro e w9 ⟨rfl, hb9, hg9, hz9⟩
        have H9 := hide (And.intro hb9 (below_grew H8.out.2 hg9 (Nat.le_refl _) (fun q hq => by rw [← Option.some.inj hq]; exact Nat.le_refl _)))
        clear hb9 hg9 hz9 H8
        go_wp2_with fail
        go_roundw
        case rel => exact ⟨k + 1, _, ⟨#[]⟩, by go_num, rfl, hlt, keepB_size (keepB_size hbest hrow64) HS6.out.2, by decide, by rw [← HQ.out]; rfl, H9.out.1, H9.out.2⟩
        case measure => simp [intOf]; omega
      | some x =>
        simp only [Option.getD_some, Option.isSome_some]
        have hx64 := HS6.out.1 x rfl
        have hwr : IntKind.i64.wrap ((row.size : Int) + (x.size : Int)) = (row.size : Int) + (x.size : Int) := by simp [IntKind.wrap, IntKind.bits, IntKind.signed]; omega
        by_cases hbig : 64 < row.size + x.size
        · have hd : decide (64 < (row.size : Int) + (x.size : Int)) = true := decide_eq_true (by omega)
          have hd2 : 64 < (row.size : Int) + (x.size : Int) := by omega
          have HE := hide (show (TL.reqs (l.drop (k + 1))).foldl lstep (keepB best row, x) = (TL.reqs l).foldl lstep (⟨#[]⟩, ⟨#[]⟩) by rw [← HQ.out, lstep]; simp only; rw [if_pos hbig])
          clear hbig
          go_wp2_with fail
          refine (keep_any best row w.heap.size _ HH6.out.1 hbest hrow64).mono ?_
          rintro e w7 ⟨rfl, hb7, hg7, hz7⟩
          have H7 := hide (And.intro hb7 (below_grew HH6.out.2.1 hg7 (Nat.le_refl _) (fun q hq => by rw [← Option.some.inj hq]; exact Nat.le_refl _)))
          clear hb7 hg7 hz7 HH6
          go_wp2_with fail
          go_roundw
          case rel => exact ⟨k + 1, keepB best row, ⟨#[]⟩ ++ x, by go_num, rfl, hlt, keepB_size hbest hrow64, by rw [empty_app]; exact hx64, by rw [empty_app]; exact HE.out, H7.out.1, H7.out.2⟩
          case measure => simp [intOf]; omega
        · have hd : decide (64 < (row.size : Int) + (x.size : Int)) = false := decide_eq_false (by omega)
          have hd2 : ¬ 64 < (row.size : Int) + (x.size : Int) := by omega
          have HE := hide (show (TL.reqs (l.drop (k + 1))).foldl lstep (best, row ++ x) = (TL.reqs l).foldl lstep (⟨#[]⟩, ⟨#[]⟩) by rw [← HQ.out, lstep]; simp only; rw [if_neg hbig])
          clear hbig
          go_wp2_with fail
          go_roundw
          case rel => exact ⟨k + 1, best, row ++ x, by go_num, rfl, hlt, hbest, by rw [app_size]; omega, HE.out, HH6.out.1, HH6.out.2.1⟩
          case measure => simp [intOf]; omega
theorem T.req_some {t : T} {s : ByteArray} (h : t.only = some s) : t.req = s := by
  obtain ⟨hd, l⟩ := t
  rw [T.req, h]; rfl
def reqK (kind mn : Int) (l : List (Option ByteArray × ByteArray)) : ByteArray := if kind = 8 then (if mn = 0 then ⟨#[]⟩ else hd2 l) else if kind = 7 then hd2 l else if kind = 5 then longP l else ⟨#[]⟩
theorem T.req_none {hd : Hd} {l : List T} (h : (T.mk hd l).only = none) : (T.mk hd l).req = reqK hd.kind hd.min (TL.reqs l) := by
  rw [T.req, h]; rfl
theorem reqK_o {k : Int} (h : k ≠ 8 ∧ k ≠ 7 ∧ k ≠ 5) (mn : Int) (l : List (Option ByteArray × ByteArray)) : reqK k mn l = ⟨#[]⟩ := by rw [reqK, if_neg h.1, if_neg h.2.1, if_neg h.2.2]
theorem reqK_5 (mn : Int) (l : List (Option ByteArray × ByteArray)) : reqK 5 mn l = longP l := by rw [reqK, if_neg (by decide), if_neg (by decide), if_pos rfl]
theorem reqK_7 (mn : Int) (l : List (Option ByteArray × ByteArray)) : reqK 7 mn l = hd2 l := by rw [reqK, if_neg (by decide), if_pos rfl]
theorem reqK_8 {mn : Int} (h : mn ≠ 0) (l : List (Option ByteArray × ByteArray)) : reqK 8 mn l = hd2 l := by rw [reqK, if_pos rfl, if_neg h]
theorem reqK_8z {mn : Int} (h : mn = 0) (l : List (Option ByteArray × ByteArray)) : reqK 8 mn l = ⟨#[]⟩ := by rw [reqK, if_pos rfl, if_pos h]
set_option maxRecDepth 100000 in
set_option maxHeartbeats 4000000 in
theorem required_any (N : Nat) : ∀ (t : T) (A : Option Addr) (c : Nat) (w : World), t.nodes ≤ N → N ≤ 1000000 → t.form = true → t.wf → Tab w → T.In w (· < w.heap.size) t A →
    Calls Tryd.prog 46 #[.agg (t.hd.cells (.slice A t.subs.length c)).toArray] w fun e w' => e = .returned (.string t.req) ∧ Below w.heap.size w w' := by
  induction N with
  | zero => intro t A c w h; have := t.nodes_pos; omega
  | succ N ih =>
    intro t A c w hN hM hf hwf hT hin
    have hkind := T.form_kind hf
    have hfs := T.form_mem_sub hf
    have hws := T.wf_sub hwf
    have HOnly := hide (fun (y : World) (hy : Tab y) (hi : T.In y (· < y.heap.size) t A) => only_any (N + 1) t A c y hN hM hf hwf hy hi)
    have hrs := @T.req_some t
    have hrn := fun h => T.req_none (hd := t.hd) (l := t.subs) (by rw [T.eta]; exact h)
    rw [T.eta] at hrn
    obtain ⟨h, l⟩ := t
    have hsz := TL.only_size l (T.form_sub hf)
    have hrz := TL.req_size l (T.form_sub hf)
    have hlen0 := T.length_lt (T.mk h l)
    obtain ⟨res, hres⟩ : ∃ r, r = (T.mk h l).req := ⟨_, rfl⟩
    rw [← hres] at hrn ⊢
    simp only [← hres] at hrs
    clear hres
    generalize (T.mk h l).only = so at *
    obtain ⟨kind, s0, s1, s2, s3, num, mn, mx, bare⟩ := h
    simp only [T.nodes, T.hd, T.subs, Hd.cells] at hlen0 hN hkind hfs hws hrn HOnly ⊢
    have hbel := (Below.refl w.heap.size w).alloc (Nat.le_refl _) (.cells #[.int .i64 kind, .int .u64 s0, .int .u64 s1, .int .u64 s2, .int .u64 s3, .slice A l.length c, .int .i64 num, .int .i64 mn, .int .i64 mx, .bool bare] 27)
    have hb0 := Blk.new w 27 #[.int .i64 kind, .int .u64 s0, .int .u64 s1, .int .u64 s2, .int .u64 s3, .slice A l.length c, .int .i64 num, .int .i64 mn, .int .i64 mx, .bool bare]
    have H0 := hide (And.intro hb0 (And.intro hbel (hT.below hbel)))
    have hin2 := hin.next hbel
    have c0 := hb0.cell
    have HIO := hide (fun (s : T) (hs : s ∈ l) (B : Option Addr) (c' : Nat) (y : World) (hy : Tab y) (hi : T.In y (· < y.heap.size) s B) => only_any N s B c' y (by have := TL.nodes_mem hs; omega) (by omega) (hfs s hs) (hws s hs) hy hi)
    have HIR := hide (fun (s : T) (hs : s ∈ l) (B : Option Addr) (c' : Nat) (y : World) (hy : Tab y) (hi : T.In y (· < y.heap.size) s B) => ih s B c' y (by have := TL.nodes_mem hs; omega) (by omega) (hfs s hs) (hws s hs) hy hi)
    have hon := HOnly.out _ H0.out.2.2 hin2
    clear ih hf hwf hin hfs hws hT hb0 hbel HOnly
    have HON := hide hon
    clear hon
    go_enter Tryd.func46, Tryd.ntmps46
    go_upto_region 1 with fail
    generalize (w.alloc (.cells #[.int .i64 kind, .int .u64 s0, .int .u64 s1, .int .u64 s2, .int .u64 s3, .slice A l.length c, .int .i64 num, .int .i64 mn, .int .i64 mx, .bool bare] 27)) = W at *
    go_wp2_with fail
    refine HON.out.mono ?_
    rintro e w1 ⟨rfl, hb1⟩
    have H1 := hide (And.intro (H0.out.1.next hb1) (And.intro (H0.out.2.1.trans (hb1.mono H0.out.2.1.size)) (And.intro (H0.out.2.2.below hb1) (hin2.next hb1))))
    clear hb1 HON H0 hin2 c0
    have c0 := H1.out.1.cell
    unfold optV
    cases so with
    | some x =>
      have HE := hide (hrs rfl)
      clear hrs hrn hkind
      go_wp2_with fail
      refine bodyPost_ret (v := .string x) (by simp [results, Tryd.results46, go_sem]) rfl ?_
      exact ⟨by rw [HE.out], H1.out.2.1⟩
    | none =>
      have HE := hide (hrn rfl)
      clear hrs hrn
      rcases hkind with hk | hk | hk | hk | hk | hk | ⟨hk, hl1⟩ | ⟨hk, hl1⟩
      · subst hk
        have HF := hide (show res = ⟨#[]⟩ by rw [HE.out, reqK_o (by decide)])
        clear HE
        go_wp2_with fail
        refine bodyPost_ret (v := .string ⟨#[]⟩) (by simp [results, Tryd.results46, go_sem]) rfl ?_
        exact ⟨by rw [HF.out], H1.out.2.1⟩
      · subst hk
        have HF := hide (show res = ⟨#[]⟩ by rw [HE.out, reqK_o (by decide)])
        clear HE
        go_wp2_with fail
        refine bodyPost_ret (v := .string ⟨#[]⟩) (by simp [results, Tryd.results46, go_sem]) rfl ?_
        exact ⟨by rw [HF.out], H1.out.2.1⟩
      · subst hk
        have HF := hide (show res = ⟨#[]⟩ by rw [HE.out, reqK_o (by decide)])
        clear HE
        go_wp2_with fail
        refine bodyPost_ret (v := .string ⟨#[]⟩) (by simp [results, Tryd.results46, go_sem]) rfl ?_
        exact ⟨by rw [HF.out], H1.out.2.1⟩
      · subst hk
        have HF := hide (show res = ⟨#[]⟩ by rw [HE.out, reqK_o (by decide)])
        clear HE
        go_wp2_with fail
        refine bodyPost_ret (v := .string ⟨#[]⟩) (by simp [results, Tryd.results46, go_sem]) rfl ?_
        exact ⟨by rw [HF.out], H1.out.2.1⟩
      · subst hk
        have HF := hide (show res = longP (TL.reqs l) by rw [HE.out, reqK_5])
        have HL := hide (longest_of l A c w1 H1.out.2.2.1 (by omega) (T.In_iff.1 H1.out.2.2.2) (fun s hs => ⟨hsz s hs, hrz s hs⟩) (fun s hs B c' y hy hi => HIO.out s hs B c' y hy hi) (fun s hs B c' y hy hi => HIR.out s hs B c' y hy hi))
        clear HE hsz hrz HIO HIR
        go_wp2_with fail
        refine HL.out.mono ?_
        rintro e w2 ⟨rfl, hb2⟩
        have H2 := hide (H1.out.2.1.trans (hb2.mono H1.out.2.1.size))
        clear hb2 HL
        go_wp2_with fail
        refine bodyPost_ret (v := .string (longP (TL.reqs l))) (by simp [results, Tryd.results46, go_sem]) rfl ?_
        exact ⟨by rw [HF.out], H2.out⟩
      · subst hk
        have HF := hide (show res = ⟨#[]⟩ by rw [HE.out, reqK_o (by decide)])
        clear HE
        go_wp2_with fail
        refine bodyPost_ret (v := .string ⟨#[]⟩) (by simp [results, Tryd.results46, go_sem]) rfl ?_
        exact ⟨by rw [HF.out], H1.out.2.1⟩
      · subst hk
        obtain ⟨s, rfl⟩ : ∃ s, l = [s] := by
          cases l with
          | nil => simp at hl1
          | cons s r => cases r with
            | nil => exact ⟨s, rfl⟩
            | cons _ _ => simp at hl1
        have HF := hide (show res = s.req by rw [HE.out, reqK_7]; rfl)
        clear HE
        obtain ⟨b, ofs, B, c', rfl, hbk, hcs, hsub⟩ := TL.In.at_ (i := 0) (T.In_iff.1 H1.out.2.2.2) rfl
        have hn := hcs.node
        simp only [Nat.zero_mul, Nat.add_zero] at hn
        obtain ⟨n0, n1, n2, n3, n4, n5, n6, n7, n8, n9⟩ := hn
        have HX := hide (HIR.out s (by simp) B c' _ H1.out.2.2.1 hsub)
        clear hsz hrz hcs hsub HIO HIR
        simp only [List.length_cons, List.length_nil, Nat.zero_add] at *
        go_wp2_with fail
        refine HX.out.mono ?_
        rintro e w2 ⟨rfl, hb2⟩
        have H2 := hide (H1.out.2.1.trans (hb2.mono H1.out.2.1.size))
        clear hb2 HX c0 n0 n1 n2 n3 n4 n5 n6 n7 n8 n9
        go_wp2_with fail
        refine bodyPost_ret (v := .string s.req) (by simp [results, Tryd.results46, go_sem]) rfl ?_
        exact ⟨by rw [HF.out], H2.out⟩
      · subst hk
        obtain ⟨s, rfl⟩ : ∃ s, l = [s] := by
          cases l with
          | nil => simp at hl1
          | cons s r => cases r with
            | nil => exact ⟨s, rfl⟩
            | cons _ _ => simp at hl1
        by_cases hm0 : mn = 0
        · have HF := hide (show res = ⟨#[]⟩ by rw [HE.out, reqK_8z hm0])
          have hq : (mn == 0) = true := by rw [hm0]; rfl
          clear HE hm0
          go_wp2_with fail
          refine bodyPost_ret (v := .string ⟨#[]⟩) (by simp [results, Tryd.results46, go_sem]) rfl ?_
          exact ⟨by rw [HF.out], H1.out.2.1⟩
        · have HF := hide (show res = s.req by rw [HE.out, reqK_8 hm0]; rfl)
          have hq : (mn == 0) = false := by rw [beq_eq_false_iff_ne]; exact hm0
          clear HE hm0
          obtain ⟨b, ofs, B, c', rfl, hbk, hcs, hsub⟩ := TL.In.at_ (i := 0) (T.In_iff.1 H1.out.2.2.2) rfl
          have hn := hcs.node
          simp only [Nat.zero_mul, Nat.add_zero] at hn
          obtain ⟨n0, n1, n2, n3, n4, n5, n6, n7, n8, n9⟩ := hn
          have HX := hide (HIR.out s (by simp) B c' _ H1.out.2.2.1 hsub)
          clear hsz hrz hcs hsub HIO HIR
          simp only [List.length_cons, List.length_nil, Nat.zero_add] at *
          go_wp2_with fail
          refine HX.out.mono ?_
          rintro e w2 ⟨rfl, hb2⟩
          have H2 := hide (H1.out.2.1.trans (hb2.mono H1.out.2.1.size))
          clear hb2 HX c0 n0 n1 n2 n3 n4 n5 n6 n7 n8 n9
          go_wp2_with fail
          refine bodyPost_ret (v := .string s.req) (by simp [results, Tryd.results46, go_sem]) rfl ?_
          exact ⟨by rw [HF.out], H2.out⟩
theorem T.form_of_check0 {t : T} (h : t.check = none) : t.form = true := by
  unfold T.check at h
  split at h
  · assumption
  · cases h
set_option maxRecDepth 100000 in
set_option maxHeartbeats 1000000 in
theorem Only_any (t : T) (A : Option Addr) (c : Nat) (w : World) (a : Nat → Addr) (hN : t.nodes ≤ 1000000) (hwf : t.wf) (hT : Tab w) (hE : Sent [0, 1, 2] w a) (hin : T.In w (· < w.heap.size) t A) :
    Calls Tryd.prog 14 #[.agg (t.hd.cells (.slice A t.subs.length c)).toArray] w fun e w' => e = .returned (optV (match t.check with | none => t.only | some _ => none)) ∧ Below w.heap.size w w' := by
  have HC := hide (fun (y : World) (hi : T.In y (· < y.heap.size) t A) (hs : Sent [0, 1, 2] y a) => check_any t A c y a hN hi hs)
  have HO := hide (fun (y : World) (hf : t.form = true) (hy : Tab y) (hi : T.In y (· < y.heap.size) t A) => only_any 1000000 t A c y hN (Nat.le_refl _) hf hwf hy hi)
  have hfc := @T.form_of_check0 t
  have HIN := hide (fun (y : World) (hy : Below w.heap.size w y) => hin.next hy)
  have HT := hide (fun (y : World) (hy : Below w.heap.size w y) => hT.below hy)
  have HE := hide (fun (y : World) (hy : Below w.heap.size w y) => hE.below hy)
  clear hin hT hE hwf
  generalize t.check = ck at *
  generalize t.only = res at *
  obtain ⟨h, l⟩ := t
  obtain ⟨kind, s0, s1, s2, s3, num, mn, mx, bare⟩ := h
  simp only [T.hd, T.subs, Hd.cells] at HC HO ⊢
  have hbel := (Below.refl w.heap.size w).alloc (Nat.le_refl _) (.cells #[.int .i64 kind, .int .u64 s0, .int .u64 s1, .int .u64 s2, .int .u64 s3, .slice A l.length c, .int .i64 num, .int .i64 mn, .int .i64 mx, .bool bare] 27)
  have hb0 := Blk.new w 27 #[.int .i64 kind, .int .u64 s0, .int .u64 s1, .int .u64 s2, .int .u64 s3, .slice A l.length c, .int .i64 num, .int .i64 mn, .int .i64 mx, .bool bare]
  have H0 := hide (And.intro hb0 hbel)
  have c0 := hb0.cell
  clear hb0 hbel
  go_enter Tryd.func14, Tryd.ntmps14
  go_upto_region 1 with fail
  generalize (w.alloc (.cells #[.int .i64 kind, .int .u64 s0, .int .u64 s1, .int .u64 s2, .int .u64 s3, .slice A l.length c, .int .i64 num, .int .i64 mn, .int .i64 mx, .bool bare] 27)) = W at *
  go_wp2_with fail
  refine (HC.out W (HIN.out W H0.out.2) (HE.out W H0.out.2)).mono ?_
  rintro e w1 ⟨rfl, hb1⟩
  have H1 := hide (And.intro (H0.out.1.next hb1) (H0.out.2.trans (hb1.mono H0.out.2.size)))
  clear hb1 HC H0 c0
  have c0 := H1.out.1.cell
  cases ck with
  | some g =>
    have hnn := fun W => run_eql_iface_nil (P := Tryd.prog) (w := W) 49 (by kernel_rfl) 169 (.pointer (some (a g)))
    unfold errOf errV
    clear hfc
    go_wp2_with fail
    refine bodyPost_ret (v := .tuple #[.string ⟨#[]⟩, .bool false]) (by simp [results, Tryd.results14, go_sem]) rfl ?_
    exact ⟨rfl, H1.out.2⟩
  | none =>
    have HF := hide (hfc rfl)
    clear hfc
    unfold errOf
    go_wp2_with fail
    refine (HO.out w1 HF.out (HT.out w1 H1.out.2) (HIN.out w1 H1.out.2)).mono ?_
    rintro e w2 ⟨rfl, hb2⟩
    have H2 := hide (H1.out.2.trans (hb2.mono H1.out.2.size))
    clear hb2
    unfold optV
    go_wp2_with fail
    refine bodyPost_ret (v := .tuple #[.string (res.getD ⟨#[]⟩), .bool res.isSome]) (by simp [results, Tryd.results14, go_sem]) rfl ?_
    exact ⟨rfl, H2.out⟩
set_option maxRecDepth 100000 in
set_option maxHeartbeats 1000000 in
theorem Required_any (t : T) (A : Option Addr) (c : Nat) (w : World) (a : Nat → Addr) (hN : t.nodes ≤ 1000000) (hwf : t.wf) (hT : Tab w) (hE : Sent [0, 1, 2] w a) (hin : T.In w (· < w.heap.size) t A) :
    Calls Tryd.prog 15 #[.agg (t.hd.cells (.slice A t.subs.length c)).toArray] w fun e w' => e = .returned (.string (match t.check with | none => t.req | some _ => ⟨#[]⟩)) ∧ Below w.heap.size w w' := by
  have HC := hide (fun (y : World) (hi : T.In y (· < y.heap.size) t A) (hs : Sent [0, 1, 2] y a) => check_any t A c y a hN hi hs)
  have HO := hide (fun (y : World) (hf : t.form = true) (hy : Tab y) (hi : T.In y (· < y.heap.size) t A) => required_any 1000000 t A c y hN (Nat.le_refl _) hf hwf hy hi)
  have hfc := @T.form_of_check0 t
  have HIN := hide (fun (y : World) (hy : Below w.heap.size w y) => hin.next hy)
  have HT := hide (fun (y : World) (hy : Below w.heap.size w y) => hT.below hy)
  have HE := hide (fun (y : World) (hy : Below w.heap.size w y) => hE.below hy)
  clear hin hT hE hwf
  generalize t.check = ck at *
  generalize t.req = res at *
  obtain ⟨h, l⟩ := t
  obtain ⟨kind, s0, s1, s2, s3, num, mn, mx, bare⟩ := h
  simp only [T.hd, T.subs, Hd.cells] at HC HO ⊢
  have hbel := (Below.refl w.heap.size w).alloc (Nat.le_refl _) (.cells #[.int .i64 kind, .int .u64 s0, .int .u64 s1, .int .u64 s2, .int .u64 s3, .slice A l.length c, .int .i64 num, .int .i64 mn, .int .i64 mx, .bool bare] 27)
  have hb0 := Blk.new w 27 #[.int .i64 kind, .int .u64 s0, .int .u64 s1, .int .u64 s2, .int .u64 s3, .slice A l.length c, .int .i64 num, .int .i64 mn, .int .i64 mx, .bool bare]
  have H0 := hide (And.intro hb0 hbel)
  have c0 := hb0.cell
  clear hb0 hbel
  go_enter Tryd.func15, Tryd.ntmps15
  go_upto_region 1 with fail
  generalize (w.alloc (.cells #[.int .i64 kind, .int .u64 s0, .int .u64 s1, .int .u64 s2, .int .u64 s3, .slice A l.length c, .int .i64 num, .int .i64 mn, .int .i64 mx, .bool bare] 27)) = W at *
  go_wp2_with fail
  refine (HC.out W (HIN.out W H0.out.2) (HE.out W H0.out.2)).mono ?_
  rintro e w1 ⟨rfl, hb1⟩
  have H1 := hide (And.intro (H0.out.1.next hb1) (H0.out.2.trans (hb1.mono H0.out.2.size)))
  clear hb1 HC H0 c0
  have c0 := H1.out.1.cell
  cases ck with
  | some g =>
    have hnn := fun W => run_eql_iface_nil (P := Tryd.prog) (w := W) 49 (by kernel_rfl) 169 (.pointer (some (a g)))
    unfold errOf errV
    clear hfc
    go_wp2_with fail
    refine bodyPost_ret (v := .string ⟨#[]⟩) (by simp [results, Tryd.results15, go_sem]) rfl ?_
    exact ⟨rfl, H1.out.2⟩
  | none =>
    have HF := hide (hfc rfl)
    clear hfc
    unfold errOf
    go_wp2_with fail
    refine (HO.out w1 HF.out (HT.out w1 H1.out.2) (HIN.out w1 H1.out.2)).mono ?_
    rintro e w2 ⟨rfl, hb2⟩
    have H2 := hide (H1.out.2.trans (hb2.mono H1.out.2.size))
    clear hb2
    skip
    go_wp2_with fail
    refine bodyPost_ret (v := .string res) (by simp [results, Tryd.results15, go_sem]) rfl ?_
    exact ⟨rfl, H2.out⟩
end Go.Proofs.YtbbhobojghmkpaaDoor
