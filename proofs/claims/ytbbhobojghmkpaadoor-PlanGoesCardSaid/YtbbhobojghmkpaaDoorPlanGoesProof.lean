/- Goes23P: plan, in plain Lean: groups and kinds, tags and engines.
GoesLaw23: trawllaw23.PlanGoes: for every tree and number true, and what was there stays. (Printed by gen_goeslaw23.py.)
PlanGoesProof: trawl/trawllaw23.PlanGoes: for every tree and number, the call answers true, and what it was given reads afterwards as before; the program's variables lie as its text lays them (the card ties that). Conditions: those of the given card alone. (Printed by gen_card.py.) -/
import Derived.Test.YtbbhobojghmkpaaDoorLives23
import Derived.Test.YtbbhobojghmkpaaDoorDepths
import Derived.Test.YtbbhobojghmkpaaDoorSames
import Derived.Test.YtbbhobojghmkpaaDoorRefAll
import Derived.Test.YtbbhobojghmkpaaDoorRows
import Derived.Test.YtbbhobojghmkpaaDoorCards
import Derived.Test.YtbbhobojghmkpaaDoorTie
import Derived.Test.YtbbhobojghmkpaaDoorReads
import Derived.WalkKit
import Derived.ProofKit
import Derived.LaidMore
import Derived.OpenShut
import Derived.ChangeOld
import Derived.Below
import Derived.Stop.Joined
import Derived.SevenTiedAt
import Derived.MakeChecks
set_option linter.unusedSimpArgs false
set_option linter.unusedVariables false
set_option linter.unnecessarySimpa false

/-! ## Goes23P -/
namespace Go.Proofs.YtbbhobojghmkpaaDoor
open Go.RowKit

theorem mx2_pos {a b : Int} : 0 < mx2 a b ↔ 0 < a ∨ 0 < b := by unfold mx2; split <;> omega
theorem T.form_num {h : Hd} {l : List T} (hf : (T.mk h l).form = true) (k : h.kind = 7) : 0 < h.num := by
  rw [T.form_eq] at hf
  simp only [Bool.and_eq_true] at hf
  have h1 := hf.1
  simp only [T.hd, T.subs] at h1
  unfold Hd.formed at h1
  rw [if_neg (by omega), if_neg (by omega), if_neg (by omega), if_pos k] at h1
  simp at h1
  obtain ⟨⟨⟨⟨⟨⟨_, h2⟩, _⟩, _⟩, _⟩, _⟩, _⟩ := h1
  exact h2
mutual
theorem T.kb_groups : ∀ t : T, t.form = true → (t.kb.testBit 7 = true ↔ 0 < t.groups)
  | .mk h l, hf => by
    have hk := T.form_kind hf
    simp only [T.hd, T.subs] at hk
    rw [T.kb, T.groups, Nat.testBit_or, Bool.or_eq_true, Nat.testBit_two_pow, ← TL.kb_groups l _ (T.form_sub hf)]
    by_cases k : h.kind = 7
    · have h7 := T.form_num hf k
      rw [if_pos k, mx2_pos, k]
      simp [h7]
    · rw [if_neg k]
      have : h.kind.toNat ≠ 7 := by omega
      simp [this]
theorem TL.kb_groups : ∀ (l : List T) (n : Int), TL.form l = true → (0 < n ∨ (TL.kb l).testBit 7 = true ↔ 0 < TL.groups l n)
  | [], n, _ => by rw [TL.kb, TL.groups]; simp
  | t :: l, n, hf => by
    rw [TL.form, Bool.and_eq_true] at hf
    rw [TL.kb, TL.groups, Nat.testBit_or, Bool.or_eq_true, ← TL.kb_groups l _ hf.2, mx2_pos, T.kb_groups t hf.1, or_assoc]
end
end Go.Proofs.YtbbhobojghmkpaaDoor

/-! ## GoesLaw23 -/
namespace Go.Proofs.YtbbhobojghmkpaaDoor
open Go.RowKit

theorem tagsOf_bits : ∀ a b c d e f : Bool, bits .and .i64 ((tagsOf a b c d e f : Nat) : Int) 1 = (if a then 1 else 0) ∧ bits .and .i64 ((tagsOf a b c d e f : Nat) : Int) 4 = (if c then 4 else 0) ∧ bits .and .i64 ((tagsOf a b c d e f : Nat) : Int) 8 = (if d then 8 else 0) ∧ bits .and .i64 ((tagsOf a b c d e f : Nat) : Int) 16 = (if e then 16 else 0) ∧ bits .and .i64 ((tagsOf a b c d e f : Nat) : Int) 32 = (if f then 32 else 0) ∧ tagsOf a b c d e f ≤ 63 := by decide +kernel
theorem ne_of_if {x n : Int} {b : Bool} (h : x = if b then n else 0) (hn : n ≠ 0) : (x != 0) = b ∧ (x == 0) = !b := by
  subst h
  cases b <;> simp [hn]
set_option maxRecDepth 100000 in
set_option maxHeartbeats 4000000 in
theorem goesLaw_true (t : T) (A : Option Addr) (c : Nat) (n : Int) (w : World) (a : Nat → Addr) (hwf : t.wf) (hin : T.In w (· < w.heap.size) t A) (hn : IsI64 n) (hE : Sent [0, 1, 2] w a) (hT : Tab w) :
    Calls Tryd.prog 7 #[.agg (t.hd.cells (.slice A t.subs.length c)).toArray, .int .i64 n] w fun e w' => e = .returned (.bool true) ∧ Below w.heap.size w w' := by
  have hne := fun y ad => run_neq_iface_nil (P := Tryd.prog) (w := y) 49 (by kernel_rfl) 169 (.pointer (some ad))
  have hnn := fun y => run_neq_nil_nil_at (P := Tryd.prog) (w := y) 49 (by kernel_rfl)
  have HLv := hide (fun (x : World) (hx : Below w.heap.size w x) => lives23_any x a (hT.below hx) (hE.below hx))
  have HI := hide (fun (x : World) (hx : Below w.heap.size w x) => hin.same (same_of_below hx) (fun y hy => Nat.lt_of_lt_of_le hy hx.size))
  have HFe := hide (fun (x : World) (hi : T.In x (· < x.heap.size) t A) => few_any t A c 2000 x hwf (by decide) (by decide) hi)
  have HSz := hide (fun (x : World) (hi : T.In x (· < x.heap.size) t A) => refSizeAll_gen t A c x (.inr hwf) hi)
  have HCk := hide (fun (hN : t.nodes ≤ 2000) (x : World) (hx : Below w.heap.size w x) (hi : T.In x (· < x.heap.size) t A) => check_any t A c x a (Nat.le_trans hN (by decide)) hi (hE.below hx))
  have HTg := hide (fun (hN : t.nodes ≤ 2000) (x : World) (hx : Below w.heap.size w x) (hj : T.In x (· < x.heap.size) t A) => tags_any t A c x a (Nat.le_trans hN (by decide)) hwf (hT.below hx) (hE.below hx) hj)
  have HRq := hide (fun (hN : t.nodes ≤ 2000) (x : World) (hx : Below w.heap.size w x) (hj : T.In x (· < x.heap.size) t A) => Required_any t A c x a (Nat.le_trans hN (by decide)) hwf (hT.below hx) (hE.below hx) hj)
  have HGr := hide (fun (hN : t.nodes ≤ 2000) (x : World) (hi : T.In x (· < x.heap.size) t A) => groups_any 2000 t A c x hN (by decide) hi)
  have HN := hide (fun (h : decide (0 ≤ t.left 2000) = true) => (by have := few_nodes (t := t) (m := 2000) (by decide) h; omega : t.nodes ≤ 2000))
  have HFo := hide (@T.form_of_check0 t)
  have HKg := hide (fun hf => T.kb_groups t hf)
  have htags : t.check = none → t.tags = tagsOf t.nothing t.mayNull (t.kb.testBit 7) t.anchor (t.only.isSome && !t.anchor) (!t.req.toList.isEmpty) := fun h => by unfold T.tags; rw [h]
  have HTE := hide htags
  clear hin hE hT hwf htags
  generalize t.tags = tg at *
  generalize t.fullSize = sz at *
  generalize t.groups = gr at *
  simp only [Hd.cells] at HFe HSz HCk HTg HRq HGr ⊢
  have hbW := (Below.refl w.heap.size w).alloc (Nat.le_refl _) (.cells #[.int .i64 t.hd.kind, .int .u64 t.hd.s0, .int .u64 t.hd.s1, .int .u64 t.hd.s2, .int .u64 t.hd.s3, .slice A t.subs.length c, .int .i64 t.hd.num, .int .i64 t.hd.min, .int .i64 t.hd.max, .bool t.hd.bare] 27)
  have hk := Blk.new w 27 #[.int .i64 t.hd.kind, .int .u64 t.hd.s0, .int .u64 t.hd.s1, .int .u64 t.hd.s2, .int .u64 t.hd.s3, .slice A t.subs.length c, .int .i64 t.hd.num, .int .i64 t.hd.min, .int .i64 t.hd.max, .bool t.hd.bare]
  have H0 := hide (And.intro hbW hk)
  clear hbW hk
  go_enter Tryd.func7, Tryd.ntmps7
  go_wp2_with fail
  generalize (w.alloc (.cells #[.int .i64 t.hd.kind, .int .u64 t.hd.s0, .int .u64 t.hd.s1, .int .u64 t.hd.s2, .int .u64 t.hd.s3, .slice A t.subs.length c, .int .i64 t.hd.num, .int .i64 t.hd.min, .int .i64 t.hd.max, .bool t.hd.bare] 27)) = w0 at *
  refine (HLv.out w0 H0.out.1).mono ?_
  rintro e w1 ⟨rfl, hb⟩
  have H1 := hide (And.intro (H0.out.1.trans (hb.mono H0.out.1.size)) (H0.out.2.next hb))
  clear hb H0 HLv
  have c1 := H1.out.2.cell
  go_wp2_with fail
  refine (HFe.out w1 (HI.out w1 H1.out.1)).mono ?_
  rintro e w2 ⟨rfl, hb⟩
  have H2 := hide (And.intro (H1.out.1.trans (hb.mono H1.out.1.size)) (H1.out.2.next hb))
  clear hb H1 HFe c1
  have c2 := H2.out.2.cell
  generalize decide (0 ≤ t.left 2000) = few at *
  cases few with
  | false =>
    go_wp2_with fail
    refine bodyPost_ret (v := .bool true) (by simp [results, Tryd.results7, go_sem]) rfl ?_
    exact ⟨rfl, H2.out.1⟩
  | true =>
    have hN := HN.out rfl
    clear HN
    go_wp2_with fail
    refine (HSz.out w2 (HI.out w2 H2.out.1)).mono ?_
    rintro e w3 ⟨rfl, hb⟩
    have H3 := hide (And.intro (H2.out.1.trans (hb.mono H2.out.1.size)) (H2.out.2.next hb))
    clear hb H2 HSz c2
    have c3 := H3.out.2.cell
    cases d1 : decide (200 < sz) with
    | true =>
      go_wp2_with fail
      refine bodyPost_ret (v := .bool true) (by simp [results, Tryd.results7, go_sem]) rfl ?_
      exact ⟨rfl, H3.out.1⟩
    | false =>
      go_wp2_with fail
      refine (HCk.out hN w3 H3.out.1 (HI.out w3 H3.out.1)).mono ?_
      rintro e w4 ⟨rfl, hb⟩
      have H4 := hide (And.intro (H3.out.1.trans (hb.mono H3.out.1.size)) (H3.out.2.next hb))
      clear hb H3 HCk c3
      have c4 := H4.out.2.cell
      cases hck : t.check with
      | some q =>
        simp only [errOf, errV]
        clear hck HTE HFo HRq HTg
        go_wp2_with fail
        refine bodyPost_ret (v := .bool true) (by simp [results, Tryd.results7, go_sem]) rfl ?_
        exact ⟨rfl, H4.out.1⟩
      | none =>
        simp only [errOf]
        rw [hck] at HRq
        simp only at HRq
        have hte := HTE.out hck
        have hkg := HKg.out (HFo.out hck)
        clear HTE HKg HFo hck
        have hcl := tagsOf_bits t.nothing t.mayNull (t.kb.testBit 7) t.anchor (t.only.isSome && !t.anchor) (!t.req.toList.isEmpty)
        rw [← hte] at hcl
        generalize hb4 : (t.only.isSome && !t.anchor) = b4 at *
        generalize hb3 : t.anchor = b3 at *
        have h34 : b3 = true → b4 = false := fun h => by rw [← hb4, h]; simp
        generalize hb2 : t.kb.testBit 7 = b2 at *
        generalize t.nothing = b0 at *
        generalize t.req = rq at *
        have hre : ∃ re, re = rq.toList.isEmpty := ⟨_, rfl⟩
        obtain ⟨re, hre⟩ := hre
        rw [← hre] at hcl
        have hgr : decide (0 < gr) = b2 := by cases b2 <;> simp at hkg ⊢ <;> omega
        clear hb4 hb3 hb2 hte hkg
        obtain ⟨k1, k4, k8, k16, k32, hle⟩ := hcl
        have HC := hide (fun y => choose_gen (tg : Int) n b0 b2 b3 b4 (!re) y k1 k4 k8 k16 k32)
        have HV := hide (And.intro (ne_of_if k1 (by decide)) (And.intro (ne_of_if k4 (by decide)) (And.intro (ne_of_if k8 (by decide)) (And.intro (ne_of_if k16 (by decide)) (ne_of_if k32 (by decide))))))
        clear k1 k4 k8 k16 k32
        have HG := hide hgr
        have HRE := hide hre
        have HLE := hide hle
        clear hgr hre hle
        go_wp2_with fail
        refine (HTg.out hN w4 H4.out.1 (HI.out w4 H4.out.1)).mono ?_
        rintro e w5 ⟨rfl, hb⟩
        have H5 := hide (And.intro (H4.out.1.trans (hb.mono H4.out.1.size)) (H4.out.2.next hb))
        clear hb H4 HTg c4
        go_wp2_with fail
        refine (HC.out w5).mono ?_
        rintro e w6 ⟨rfl, hb⟩
        have H6 := hide (And.intro (H5.out.1.trans (hb.mono H5.out.1.size)) (H5.out.2.next hb))
        clear hb H5 HC
        generalize hw2 : decide (2 ≤ n) = w2 at *
        cases b3 with
        | true =>
          obtain rfl := h34 rfl
          clear h34
          cases b0 with
          | true =>
            have hpl : planOf true b2 true false (!re) w2 = .agg #[.int .i64 0, .bool false, .bool false] := by simp [planOf, planV, engI]
            rw [hpl]
            clear hpl
            go_upto_region 7 with fail
            have hbW := (Below.refl w6.heap.size w6).alloc (Nat.le_refl _) (.cells #[.int .i64 0, .bool false, .bool false] 44)
            have hk := Blk.new w6 44 #[.int .i64 0, .bool false, .bool false]
            have H7 := hide (And.intro (H6.out.1.trans (hbW.mono H6.out.1.size)) (And.intro (H6.out.2.next hbW) hk))
            clear hbW hk H6
            generalize (w6.alloc (.cells #[.int .i64 0, .bool false, .bool false] 44)) = w7 at *
            generalize w6.heap.size = g7 at *
            have c7 := H7.out.2.1.cell
            obtain ⟨⟨v1, u1⟩, ⟨v4, u4⟩, ⟨v8, u8⟩, ⟨v16, u16⟩, ⟨v32, u32⟩⟩ := HV.out
            have le1 : ¬ (tg : Int) < 0 := by omega
            have le2 : decide ((tg : Int) < 0) = false := decide_eq_false le1
            have le3 : ¬ (63 : Int) < (tg : Int) := by have := HLE.out; omega
            have le4 : decide ((63 : Int) < (tg : Int)) = false := decide_eq_false le3
            have hre := HRE.out.symm
            have hgr := HG.out
            go_wp2_with fail
            refine (HRq.out hN w7 H7.out.1 (HI.out w7 H7.out.1)).mono ?_
            rintro e w8 ⟨rfl, hb⟩
            have H8 := hide (And.intro (H7.out.1.trans (hb.mono H7.out.1.size)) (And.intro (H7.out.2.1.next hb) (H7.out.2.2.next hb)))
            clear hb H7 HRq c7
            have c8 := H8.out.2.1.cell
            go_wp2_with fail
            refine (HGr.out hN w8 (HI.out w8 H8.out.1)).mono ?_
            rintro e w9 ⟨rfl, hb⟩
            have H9 := hide (And.intro (H8.out.1.trans (hb.mono H8.out.1.size)) (H8.out.2.2.next hb))
            clear hb H8 HGr c8
            have c9 := H9.out.2.cell
            cases w2 <;> cases b2 <;> (
              go_wp2_with fail
              refine bodyPost_ret (v := .bool true) (by simp [results, Tryd.results7, go_sem]) rfl ?_
              exact ⟨rfl, H9.out.1⟩)
          | false =>
            cases re with
            | true =>
              have hpl : planOf false b2 true false (!true) w2 = .agg #[.int .i64 3, .bool false, .bool (b2 && w2)] := by simp [planOf, planV, engI]
              rw [hpl]
              clear hpl
              go_upto_region 7 with fail
              have hbW := (Below.refl w6.heap.size w6).alloc (Nat.le_refl _) (.cells #[.int .i64 3, .bool false, .bool (b2 && w2)] 44)
              have hk := Blk.new w6 44 #[.int .i64 3, .bool false, .bool (b2 && w2)]
              have H7 := hide (And.intro (H6.out.1.trans (hbW.mono H6.out.1.size)) (And.intro (H6.out.2.next hbW) hk))
              clear hbW hk H6
              generalize (w6.alloc (.cells #[.int .i64 3, .bool false, .bool (b2 && w2)] 44)) = w7 at *
              generalize w6.heap.size = g7 at *
              have c7 := H7.out.2.1.cell
              obtain ⟨⟨v1, u1⟩, ⟨v4, u4⟩, ⟨v8, u8⟩, ⟨v16, u16⟩, ⟨v32, u32⟩⟩ := HV.out
              have le1 : ¬ (tg : Int) < 0 := by omega
              have le2 : decide ((tg : Int) < 0) = false := decide_eq_false le1
              have le3 : ¬ (63 : Int) < (tg : Int) := by have := HLE.out; omega
              have le4 : decide ((63 : Int) < (tg : Int)) = false := decide_eq_false le3
              have hre := HRE.out.symm
              have hgr := HG.out
              go_wp2_with fail
              refine (HRq.out hN w7 H7.out.1 (HI.out w7 H7.out.1)).mono ?_
              rintro e w8 ⟨rfl, hb⟩
              have H8 := hide (And.intro (H7.out.1.trans (hb.mono H7.out.1.size)) (And.intro (H7.out.2.1.next hb) (H7.out.2.2.next hb)))
              clear hb H7 HRq c7
              have c8 := H8.out.2.1.cell
              go_wp2_with fail
              refine (HGr.out hN w8 (HI.out w8 H8.out.1)).mono ?_
              rintro e w9 ⟨rfl, hb⟩
              have H9 := hide (And.intro (H8.out.1.trans (hb.mono H8.out.1.size)) (H8.out.2.2.next hb))
              clear hb H8 HGr c8
              have c9 := H9.out.2.cell
              cases w2 <;> cases b2 <;> (
                go_wp2_with fail
                refine bodyPost_ret (v := .bool true) (by simp [results, Tryd.results7, go_sem]) rfl ?_
                exact ⟨rfl, H9.out.1⟩)
            | false =>
              have hpl : planOf false b2 true false (!false) w2 = .agg #[.int .i64 2, .bool true, .bool (b2 && w2)] := by simp [planOf, planV, engI]
              rw [hpl]
              clear hpl
              go_upto_region 7 with fail
              have hbW := (Below.refl w6.heap.size w6).alloc (Nat.le_refl _) (.cells #[.int .i64 2, .bool true, .bool (b2 && w2)] 44)
              have hk := Blk.new w6 44 #[.int .i64 2, .bool true, .bool (b2 && w2)]
              have H7 := hide (And.intro (H6.out.1.trans (hbW.mono H6.out.1.size)) (And.intro (H6.out.2.next hbW) hk))
              clear hbW hk H6
              generalize (w6.alloc (.cells #[.int .i64 2, .bool true, .bool (b2 && w2)] 44)) = w7 at *
              generalize w6.heap.size = g7 at *
              have c7 := H7.out.2.1.cell
              obtain ⟨⟨v1, u1⟩, ⟨v4, u4⟩, ⟨v8, u8⟩, ⟨v16, u16⟩, ⟨v32, u32⟩⟩ := HV.out
              have le1 : ¬ (tg : Int) < 0 := by omega
              have le2 : decide ((tg : Int) < 0) = false := decide_eq_false le1
              have le3 : ¬ (63 : Int) < (tg : Int) := by have := HLE.out; omega
              have le4 : decide ((63 : Int) < (tg : Int)) = false := decide_eq_false le3
              have hre := HRE.out.symm
              have hgr := HG.out
              go_wp2_with fail
              refine (HRq.out hN w7 H7.out.1 (HI.out w7 H7.out.1)).mono ?_
              rintro e w8 ⟨rfl, hb⟩
              have H8 := hide (And.intro (H7.out.1.trans (hb.mono H7.out.1.size)) (And.intro (H7.out.2.1.next hb) (H7.out.2.2.next hb)))
              clear hb H7 HRq c7
              have c8 := H8.out.2.1.cell
              go_wp2_with fail
              refine (HGr.out hN w8 (HI.out w8 H8.out.1)).mono ?_
              rintro e w9 ⟨rfl, hb⟩
              have H9 := hide (And.intro (H8.out.1.trans (hb.mono H8.out.1.size)) (H8.out.2.2.next hb))
              clear hb H8 HGr c8
              have c9 := H9.out.2.cell
              cases w2 <;> cases b2 <;> (
                go_wp2_with fail
                refine bodyPost_ret (v := .bool true) (by simp [results, Tryd.results7, go_sem]) rfl ?_
                exact ⟨rfl, H9.out.1⟩)
        | false =>
          clear h34
          cases b0 with
          | true =>
            have hpl : planOf true b2 false b4 (!re) w2 = .agg #[.int .i64 0, .bool false, .bool false] := by simp [planOf, planV, engI]
            rw [hpl]
            clear hpl
            go_upto_region 7 with fail
            have hbW := (Below.refl w6.heap.size w6).alloc (Nat.le_refl _) (.cells #[.int .i64 0, .bool false, .bool false] 44)
            have hk := Blk.new w6 44 #[.int .i64 0, .bool false, .bool false]
            have H7 := hide (And.intro (H6.out.1.trans (hbW.mono H6.out.1.size)) (And.intro (H6.out.2.next hbW) hk))
            clear hbW hk H6
            generalize (w6.alloc (.cells #[.int .i64 0, .bool false, .bool false] 44)) = w7 at *
            generalize w6.heap.size = g7 at *
            have c7 := H7.out.2.1.cell
            obtain ⟨⟨v1, u1⟩, ⟨v4, u4⟩, ⟨v8, u8⟩, ⟨v16, u16⟩, ⟨v32, u32⟩⟩ := HV.out
            have le1 : ¬ (tg : Int) < 0 := by omega
            have le2 : decide ((tg : Int) < 0) = false := decide_eq_false le1
            have le3 : ¬ (63 : Int) < (tg : Int) := by have := HLE.out; omega
            have le4 : decide ((63 : Int) < (tg : Int)) = false := decide_eq_false le3
            have hre := HRE.out.symm
            have hgr := HG.out
            go_wp2_with fail
            refine (HRq.out hN w7 H7.out.1 (HI.out w7 H7.out.1)).mono ?_
            rintro e w8 ⟨rfl, hb⟩
            have H8 := hide (And.intro (H7.out.1.trans (hb.mono H7.out.1.size)) (And.intro (H7.out.2.1.next hb) (H7.out.2.2.next hb)))
            clear hb H7 HRq c7
            have c8 := H8.out.2.1.cell
            go_wp2_with fail
            refine (HGr.out hN w8 (HI.out w8 H8.out.1)).mono ?_
            rintro e w9 ⟨rfl, hb⟩
            have H9 := hide (And.intro (H8.out.1.trans (hb.mono H8.out.1.size)) (H8.out.2.2.next hb))
            clear hb H8 HGr c8
            have c9 := H9.out.2.cell
            cases w2 <;> cases b2 <;> (
              go_wp2_with fail
              refine bodyPost_ret (v := .bool true) (by simp [results, Tryd.results7, go_sem]) rfl ?_
              exact ⟨rfl, H9.out.1⟩)
          | false =>
            cases b4 with
            | true =>
              have hpl : planOf false b2 false true (!re) w2 = .agg #[.int .i64 1, .bool false, .bool (b2 && w2)] := by simp [planOf, planV, engI]
              rw [hpl]
              clear hpl
              go_upto_region 7 with fail
              have hbW := (Below.refl w6.heap.size w6).alloc (Nat.le_refl _) (.cells #[.int .i64 1, .bool false, .bool (b2 && w2)] 44)
              have hk := Blk.new w6 44 #[.int .i64 1, .bool false, .bool (b2 && w2)]
              have H7 := hide (And.intro (H6.out.1.trans (hbW.mono H6.out.1.size)) (And.intro (H6.out.2.next hbW) hk))
              clear hbW hk H6
              generalize (w6.alloc (.cells #[.int .i64 1, .bool false, .bool (b2 && w2)] 44)) = w7 at *
              generalize w6.heap.size = g7 at *
              have c7 := H7.out.2.1.cell
              obtain ⟨⟨v1, u1⟩, ⟨v4, u4⟩, ⟨v8, u8⟩, ⟨v16, u16⟩, ⟨v32, u32⟩⟩ := HV.out
              have le1 : ¬ (tg : Int) < 0 := by omega
              have le2 : decide ((tg : Int) < 0) = false := decide_eq_false le1
              have le3 : ¬ (63 : Int) < (tg : Int) := by have := HLE.out; omega
              have le4 : decide ((63 : Int) < (tg : Int)) = false := decide_eq_false le3
              have hre := HRE.out.symm
              have hgr := HG.out
              go_wp2_with fail
              refine (HRq.out hN w7 H7.out.1 (HI.out w7 H7.out.1)).mono ?_
              rintro e w8 ⟨rfl, hb⟩
              have H8 := hide (And.intro (H7.out.1.trans (hb.mono H7.out.1.size)) (And.intro (H7.out.2.1.next hb) (H7.out.2.2.next hb)))
              clear hb H7 HRq c7
              have c8 := H8.out.2.1.cell
              go_wp2_with fail
              refine (HGr.out hN w8 (HI.out w8 H8.out.1)).mono ?_
              rintro e w9 ⟨rfl, hb⟩
              have H9 := hide (And.intro (H8.out.1.trans (hb.mono H8.out.1.size)) (H8.out.2.2.next hb))
              clear hb H8 HGr c8
              have c9 := H9.out.2.cell
              cases w2 <;> cases b2 <;> (
                go_wp2_with fail
                refine bodyPost_ret (v := .bool true) (by simp [results, Tryd.results7, go_sem]) rfl ?_
                exact ⟨rfl, H9.out.1⟩)
            | false =>
              cases re with
              | true =>
                have hpl : planOf false b2 false false (!true) w2 = .agg #[.int .i64 2, .bool false, .bool (b2 && w2)] := by simp [planOf, planV, engI]
                rw [hpl]
                clear hpl
                go_upto_region 7 with fail
                have hbW := (Below.refl w6.heap.size w6).alloc (Nat.le_refl _) (.cells #[.int .i64 2, .bool false, .bool (b2 && w2)] 44)
                have hk := Blk.new w6 44 #[.int .i64 2, .bool false, .bool (b2 && w2)]
                have H7 := hide (And.intro (H6.out.1.trans (hbW.mono H6.out.1.size)) (And.intro (H6.out.2.next hbW) hk))
                clear hbW hk H6
                generalize (w6.alloc (.cells #[.int .i64 2, .bool false, .bool (b2 && w2)] 44)) = w7 at *
                generalize w6.heap.size = g7 at *
                have c7 := H7.out.2.1.cell
                obtain ⟨⟨v1, u1⟩, ⟨v4, u4⟩, ⟨v8, u8⟩, ⟨v16, u16⟩, ⟨v32, u32⟩⟩ := HV.out
                have le1 : ¬ (tg : Int) < 0 := by omega
                have le2 : decide ((tg : Int) < 0) = false := decide_eq_false le1
                have le3 : ¬ (63 : Int) < (tg : Int) := by have := HLE.out; omega
                have le4 : decide ((63 : Int) < (tg : Int)) = false := decide_eq_false le3
                have hre := HRE.out.symm
                have hgr := HG.out
                go_wp2_with fail
                refine (HRq.out hN w7 H7.out.1 (HI.out w7 H7.out.1)).mono ?_
                rintro e w8 ⟨rfl, hb⟩
                have H8 := hide (And.intro (H7.out.1.trans (hb.mono H7.out.1.size)) (And.intro (H7.out.2.1.next hb) (H7.out.2.2.next hb)))
                clear hb H7 HRq c7
                have c8 := H8.out.2.1.cell
                go_wp2_with fail
                refine (HGr.out hN w8 (HI.out w8 H8.out.1)).mono ?_
                rintro e w9 ⟨rfl, hb⟩
                have H9 := hide (And.intro (H8.out.1.trans (hb.mono H8.out.1.size)) (H8.out.2.2.next hb))
                clear hb H8 HGr c8
                have c9 := H9.out.2.cell
                cases w2 <;> cases b2 <;> (
                  go_wp2_with fail
                  refine bodyPost_ret (v := .bool true) (by simp [results, Tryd.results7, go_sem]) rfl ?_
                  exact ⟨rfl, H9.out.1⟩)
              | false =>
                have hpl : planOf false b2 false false (!false) w2 = .agg #[.int .i64 2, .bool true, .bool (b2 && w2)] := by simp [planOf, planV, engI]
                rw [hpl]
                clear hpl
                go_upto_region 7 with fail
                have hbW := (Below.refl w6.heap.size w6).alloc (Nat.le_refl _) (.cells #[.int .i64 2, .bool true, .bool (b2 && w2)] 44)
                have hk := Blk.new w6 44 #[.int .i64 2, .bool true, .bool (b2 && w2)]
                have H7 := hide (And.intro (H6.out.1.trans (hbW.mono H6.out.1.size)) (And.intro (H6.out.2.next hbW) hk))
                clear hbW hk H6
                generalize (w6.alloc (.cells #[.int .i64 2, .bool true, .bool (b2 && w2)] 44)) = w7 at *
                generalize w6.heap.size = g7 at *
                have c7 := H7.out.2.1.cell
                obtain ⟨⟨v1, u1⟩, ⟨v4, u4⟩, ⟨v8, u8⟩, ⟨v16, u16⟩, ⟨v32, u32⟩⟩ := HV.out
                have le1 : ¬ (tg : Int) < 0 := by omega
                have le2 : decide ((tg : Int) < 0) = false := decide_eq_false le1
                have le3 : ¬ (63 : Int) < (tg : Int) := by have := HLE.out; omega
                have le4 : decide ((63 : Int) < (tg : Int)) = false := decide_eq_false le3
                have hre := HRE.out.symm
                have hgr := HG.out
                go_wp2_with fail
                refine (HRq.out hN w7 H7.out.1 (HI.out w7 H7.out.1)).mono ?_
                rintro e w8 ⟨rfl, hb⟩
                have H8 := hide (And.intro (H7.out.1.trans (hb.mono H7.out.1.size)) (And.intro (H7.out.2.1.next hb) (H7.out.2.2.next hb)))
                clear hb H7 HRq c7
                have c8 := H8.out.2.1.cell
                go_wp2_with fail
                refine (HGr.out hN w8 (HI.out w8 H8.out.1)).mono ?_
                rintro e w9 ⟨rfl, hb⟩
                have H9 := hide (And.intro (H8.out.1.trans (hb.mono H8.out.1.size)) (H8.out.2.2.next hb))
                clear hb H8 HGr c8
                have c9 := H9.out.2.cell
                cases w2 <;> cases b2 <;> (
                  go_wp2_with fail
                  refine bodyPost_ret (v := .bool true) (by simp [results, Tryd.results7, go_sem]) rfl ?_
                  exact ⟨rfl, H9.out.1⟩)
end Go.Proofs.YtbbhobojghmkpaaDoor

/-! ## PlanGoesProof -/
namespace Go.Proofs.YtbbhobojghmkpaaDoor
open Go.ChangeShapes Go.WideShapes Go.ChangeAt Go.RowKit

theorem own : ownKnob Tryd.prog.godebug = none := by kernel_rfl
theorem laidOut : laidOutB Tryd.prog = true := by kernel_rfl
theorem star : ("*" ++ "errors.errorString" : String) = "*errors.errorString" := by decide
theorem rowE (u : TypeId) (h : Tryd.prog.typeName? 3 u = some "*errors.errorString") : u = 169 :=
  typeName_ptr_named (nm := "errors.errorString") (by rw [star]; kernel_rfl) (by kernel_rfl) (by decide) u (by rw [star]; exact h)

theorem agg_of {v : Value} {cs : Array Value} {l : List Value} (h : v = .agg cs) (hl : v.cells.toList = l) : v = .agg l.toArray := by
  subst h
  subst hl
  simp [Value.cells]

theorem env_of_laid {W : World} (h : laidMetH Tryd.prog Rows.planGoesRow.laid W) : ∃ a, Sent [0, 1, 2] W a ∧ Tab W := by
  rw [Go.MakeChecks.laidMetH_plain Tryd.prog Rows.planGoesRow.laid W (by kernel_rfl)] at h
  have ht := tab_of_met h (by simp only [Rows.planGoesRow, Rows.laid_math_bits_deBruijn64tab]; exact List.mem_of_getElem? (i := 0) rfl)
  obtain ⟨a, ha⟩ := sent_of_met (S := [0, 1, 2]) h rowE (fun g hg => by
    simp only [List.mem_cons, List.not_mem_nil, or_false] at hg
    rcases hg with e | e | e <;> subst e
    · exact ⟨ "trawl/api.ErrTree", _, List.mem_of_getElem? (i := 2) rfl, by kernel_rfl, by kernel_rfl⟩
    · exact ⟨ "trawl/api.ErrDeep", _, List.mem_of_getElem? (i := 3) rfl, by kernel_rfl, by kernel_rfl⟩
    · exact ⟨ "trawl/api.ErrTooBig", _, List.mem_of_getElem? (i := 1) rfl, by kernel_rfl, by kernel_rfl⟩)
  exact ⟨a, ha, ht⟩

theorem door_met (os : Os) (args : Array Value) : laidMetH Tryd.prog Rows.planGoesRow.laid ((World.doorLaid Tryd.prog 420 os).forCall (fun _ _ => 0) ⟨#[], args, []⟩).memory :=
  laidMetH_of_parts3 (fuel := 8) (laidMet_of_run' 8 (by kernel_rfl) (by kernel_rfl)) (by kernel_rfl) (by kernel_rfl)

set_option maxRecDepth 100000 in
theorem lifted (os : Os) (started : os.Started) (H : Type) (enc : TypeId × Value → H) :
    ReturnsInHanded {} Tryd.checked os 7 .any (fun w args => (Rows.planGoesSpec.pre enc Tryd.prog Tryd.f7 [] false w args ∧ laidMetH Tryd.prog Rows.planGoesRow.laid w) ∧ sizedMet enc Tryd.prog Tryd.f7 (OpenSpec.ofChange Rows.planGoesSpec) false w args)
      (Rows.planGoesSpec.post enc Tryd.prog Tryd.f7 false true false false) := by
  refine returnsInHanded_of_change_and (C := Tryd.checked) (X := fun w _ => laidMetH Tryd.prog Rows.planGoesRow.laid w) (fun _ _ _ hh h => h.of_heap hh) own started (by kernel_rfl) Tryd.func7
    (ChangeSpec.witness_shaped (enc := enc) (C := Tryd.checked) (os := os) (X := fun w _ => laidMetH Tryd.prog Rows.planGoesRow.laid w) false (World.doorLaid Tryd.prog 420 os) #[.agg zeroCells, .int .i64 0] 8 rfl (World.shaped_of_RefB (by kernel_rfl) (by kernel_rfl)) (by kernel_rfl) (by kernel_rfl) (by kernel_rfl) (door_met os _)) ?_
  intro W base args ds gs before hval0 hW _ hsz0 hL _
  have hval : ∀ (j : Nat) t v, Tryd.f7.params[j]? = some t → args[j]? = some v → Value.okWide Tryd.prog W .any base t v := hval0
  have hW' := hW
  obtain ⟨p, q, hA0, hV, rfl, hfz, hnd⟩ := hW
  have hA : DataW.TrodAll enc Tryd.prog W 0 (fun _ => true) true Tryd.f7.params.toList args.toList ds p := hA0
  have hsz : (DataW.weightsEach Tryd.prog (Tryd.f7.params.toList ++ []) (ds ++ gs)).all (· ≤ reachBytes) = true := hsz0
  rw [Tryd.params7] at hA hval hsz
  obtain ⟨v0, vs0, d0, ds0, p0, q0, e0, rfl, rfl, h0, r0⟩ := trodAll_cons hA
  obtain ⟨v1, vs1, d1, ds1, p1, q1, e1, rfl, rfl, h1, r1⟩ := trodAll_cons r0
  obtain ⟨rfl, rfl, rfl⟩ := trodAll_nil r1
  subst e1
  obtain rfl : args = #[v0, v1] := by cases args; simp_all
  obtain ⟨rfl, rfl⟩ := trodVars_none hV
  have k0 := h0
  have lt0 : ∀ x ∈ p0, x.block < W.heap.size := by obtain ⟨m, hm⟩ := k0; exact DataW.trod_lt m _ _ _ hm
  have k1 := h1
  have lt1 : ∀ x ∈ p1, x.block < W.heap.size := by obtain ⟨m, hm⟩ := k1; exact DataW.trod_lt m _ _ _ hm
  obtain ⟨t0, A0, c0, e0, hin0, hwf0⟩ : ∃ (t : T) (A : Option Addr) (c : Nat), v0.cells.toList = t.hd.cells (.slice A t.subs.length c) ∧ T.In W (· < W.heap.size) t A ∧ t.wf := by
    obtain ⟨fuel, hf⟩ := h0
    exact trod_node fuel _ _ hf
  obtain ⟨cs0, hv0, _⟩ := okWide_struct Tryd.underlying27 (hval 0 27 v0 rfl rfl)
  have ev0 := agg_of hv0 e0
  clear hv0 e0
  subst ev0
  obtain ⟨n1, e1, hn1⟩ : ∃ n : Int, v1 = .int .i64 n ∧ IsI64 n := by
    obtain ⟨n, e, _, _, hw⟩ := open_int Tryd.underlying3 (hval 1 3 v1 rfl rfl) h1
    exact ⟨n, e, bounds_i64 hw⟩
  subst e1
  obtain ⟨a, ha, hb⟩ := env_of_laid hL
  clear hA0 hval0 hval hA
  refine (goesLaw_true t0 A0 c0 n1 W a hwf0 hin0 hn1 ha hb).mono fun e W' ⟨he, bel⟩ => ?_
  subst he
  exact ⟨_, rfl, _, _, _, [], _, [], hW', trodAll_mk1 (shut_bool Tryd.underlying4 _), (trodAll_cons_mk (Below.trod laidOut (by kernel_rfl) (of_decide_eq_true (by kernel_rfl)) k0 bel lt0) (trodAll_cons_mk (Below.trod laidOut (by kernel_rfl) (of_decide_eq_true (by kernel_rfl)) k1 bel lt1) trodAll_mk0)), rfl, bel.frame _, fun h => by cases h⟩

theorem said : Rows.PlanGoesSaid :=
  OpenClaim.holds_of_wide 7 Tryd.f7 rfl rfl rfl rfl rfl rfl rfl ⟨rfl, rfl, rfl, rfl, rfl⟩ rfl rfl rfl rfl rfl (by kernel_rfl) Tryd.func7 (by kernel_rfl)
    (of_decide_eq_true (by kernel_rfl)) (by unfold Func.isWrapper; first | (rw [if_pos (by decide +kernel)]; kernel_rfl) | (rw [if_neg (by decide +kernel)]; exact ⟨rfl, rfl⟩))
    (fun os started H enc _ => lifted os started H enc)

theorem plain (f : FuncId) (fn : Func) (hf : Tryd.pinned.checked.prog.funcNamed "trawl/trawllaw23.PlanGoes" = some f) (hfn : Tryd.pinned.checked.prog.funcs[f]? = some fn) :
    false = Tryd.pinned.checked.prog.looks [] ∧ ∀ (j : Nat) t, fn.params[j]? = some t → Tryd.pinned.checked.prog.wantsStandIn t = false := by
  obtain rfl : f = 7 := Option.some.inj ((show Tryd.prog.funcNamed "trawl/trawllaw23.PlanGoes" = some 7 by kernel_rfl).symm.trans hf) |>.symm
  obtain rfl : fn = Tryd.f7 := (Option.some.inj (Tryd.func7.symm.trans hfn)).symm
  refine ⟨by kernel_rfl, fun j t ht => ?_⟩
  rw [Tryd.params7] at ht
  have hm := Array.mem_of_getElem? ht
  simp only [List.mem_toArray, List.mem_cons, List.not_mem_nil, or_false] at hm
  rcases hm with rfl | rfl
  · exact (show Tryd.prog.wantsStandIn 27 = false by kernel_rfl)
  · exact (show Tryd.prog.wantsStandIn 3 = false by kernel_rfl)

theorem planGoes_holds : Rows.PlanGoesCardSaid :=
  Claim7.holds_tied_plain_at .later [] _ _ _ _ said (fun _ h => by cases h) (by kernel_rfl) (fun _ h => by cases h) planGoes_row_tie rfl ⟨rfl, rfl⟩ (by kernel_rfl) rfl plain (by kernel_rfl)
#print axioms planGoes_holds
end Go.Proofs.YtbbhobojghmkpaaDoor
