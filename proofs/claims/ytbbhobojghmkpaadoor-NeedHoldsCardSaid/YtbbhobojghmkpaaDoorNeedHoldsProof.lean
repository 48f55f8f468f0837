/- trawl/trawllaw20.NeedHolds: for every tree and subject, the call answers true, and what it was given reads afterwards as before; the program's variables lie as its text lays them (the card ties that). Conditions: those of the given card alone. (Printed by gen_card3.py.) -/
import Derived.Test.YtbbhobojghmkpaaDoorProg
import Derived.Test.YtbbhobojghmkpaaDoorWords
import Derived.Shelf.Small.Strs
import Derived.Shelf.Strings.Search3
import Derived.ShapedOpen
import Derived.Test.YtbbhobojghmkpaaDoorLives20
import Derived.Test.YtbbhobojghmkpaaDoorNeedLaw
import Derived.Test.YtbbhobojghmkpaaDoorAlgLaw
import Derived.Test.YtbbhobojghmkpaaDoorSceneNew
import Derived.Test.YtbbhobojghmkpaaDoorRows
import Derived.Test.YtbbhobojghmkpaaDoorCards
import Derived.Test.YtbbhobojghmkpaaDoorTie
import Derived.Test.YtbbhobojghmkpaaDoorReads
import Derived.WalkKit
import Derived.ProofKit
import Derived.LaidMore
import Derived.OpenShut
import Derived.ChangeOld
import Derived.Below
import Derived.Stop.Joined
import Derived.Deep.DeepHandedRow
import Derived.SevenTiedAt
import Derived.MakeChecks
set_option linter.unusedSimpArgs false
set_option linter.unusedVariables false
set_option linter.unnecessarySimpa false

/-! ## StrsI -/
namespace Go.Proofs.YtbbhobojghmkpaaDoor
open Go.RowKit

def strRenI : Go.Shelf.Ren := ⟨fun | 143 => 74 | 217 => 123 | 219 => 107 | 224 => 125 | 225 => 124 | 266 => 134 | 267 => 126 | 314 => 135 | n => n, fun | 3 => 3 | 4 => 4 | 5 => 5 | 9 => 9 | 46 => 87 | 51 => 142 | 146 => 143 | n => n, fun | 1 => 6 | n => n⟩
theorem idxLaysI : Lays.n143 Tryd.prog strRenI where
  mixed := by kernel_rfl
  f143 := Tryd.func74.trans (congrArg some (by kernel_rfl))
  f217 := Tryd.func123.trans (congrArg some (by kernel_rfl))
  f219 := Tryd.func107.trans (congrArg some (by kernel_rfl))
  f224 := Tryd.func125.trans (congrArg some (by kernel_rfl))
  f225 := Tryd.func124.trans (congrArg some (by kernel_rfl))
  f266 := Tryd.func134.trans (congrArg some (by kernel_rfl))
  f267 := Tryd.func126.trans (congrArg some (by kernel_rfl))
  f314 := Tryd.func135.trans (congrArg some (by kernel_rfl))
  t3 := Tryd.underlying3
  a3 := Tryd.isAgg3
  z3 := Tryd.sizeOf3
  v3 := Tryd.zeroValue3
  t4 := Tryd.underlying4
  a4 := Tryd.isAgg4
  z4 := Tryd.sizeOf4
  v4 := Tryd.zeroValue4
  t5 := Tryd.underlying5
  a5 := Tryd.isAgg5
  z5 := Tryd.sizeOf5
  v5 := Tryd.zeroValue5
  t9 := Tryd.underlying9
  a9 := Tryd.isAgg9
  z9 := Tryd.sizeOf9
  v9 := Tryd.zeroValue9
  t46 := Tryd.underlying87
  a46 := Tryd.isAgg87
  z46 := Tryd.sizeOf87
  v46 := Tryd.zeroValue87
  t51 := Tryd.underlying142
  a51 := Tryd.isAgg142
  z51 := Tryd.sizeOf142
  v51 := Tryd.zeroValue142
  t146 := Tryd.underlying143
  a146 := Tryd.isAgg143
  z146 := Tryd.sizeOf143
  v146 := Tryd.zeroValue143
  g1 := by kernel_rfl

theorem indexI_any (s sub : ByteArray) (m : Int) (w : World) (hs : s.size < 4294967281) (hm : w.cell? ⟨6, 0, none⟩ = some (.int .i64 m)) :
    Calls Tryd.prog 74 #[.string s, .string sub] w fun e w' => e = .returned (.int .i64 (Lib.index s.data.toList sub.data.toList)) ∧ w' = w := Any.strings_Index idxLaysI s sub m w hs hm
end Go.Proofs.YtbbhobojghmkpaaDoor

/-! ## ShapeInt -/
namespace Go.Proofs.YtbbhobojghmkpaaDoor
open Go.RowKit

theorem int_of_shape {P : Program} {w : World} {g : Nat} {t : TypeId} {zero : Array Value} (h : w.ShapedOpen P) (hg : g < P.globals.size)
    (h0 : ((begin P (fun _ _ => 0) default).world.heap[g]?).bind Obj.row? = some (zero, t)) (hz : zero.size = 1)
    (hb : P.buildable t = true) (hc : P.cellTypes P.depth t = some [t]) (hu : P.underlying t = some (.int .i64)) : ∃ m, w.cell? ⟨g, 0, none⟩ = some (.int .i64 m) := by
  obtain ⟨cs, hh, hs, hr⟩ := h.1 g zero t hg h0
  obtain ⟨ts, hts, hlen, hall⟩ := hr hb
  rw [hc] at hts
  cases hts
  have h1 : 0 < cs.size := by omega
  obtain ⟨u, hu', hok⟩ := hall 0 cs[0] (by simp [h1])
  have : u = t := by simpa using hu'.symm
  subst this
  have hcell : w.cell? ⟨g, 0, none⟩ = some cs[0] := by simp [World.cell?, hh, h1]
  rw [hcell]
  unfold Cell.ok at hok
  rw [hu] at hok
  cases hv : cs[0] <;> rw [hv] at hok
  case int k x =>
    have hk : k = .i64 := by
      simp at hok
      first | exact hok.1 | exact hok.1.symm | exact hok | exact hok.symm
    subst hk
    exact ⟨_, rfl⟩
  all_goals simp at hok
theorem maxLen_int {w : World} (h : w.ShapedOpen Tryd.prog) : ∃ m, w.cell? ⟨6, 0, none⟩ = some (.int .i64 m) :=
  int_of_shape (t := 3) (zero := #[.int .i64 0]) h (of_decide_eq_true (by kernel_rfl)) (by kernel_rfl) rfl (by kernel_rfl) (by kernel_rfl) Tryd.underlying3
end Go.Proofs.YtbbhobojghmkpaaDoor

/-! ## HoldsLaw20 -/
namespace Go.Proofs.YtbbhobojghmkpaaDoor
open Go.RowKit

/-- What the walk keeps: the tree's box, the view's box. -/
structure PH (w : World) (cs vs : Array Value) (y : World) : Prop where
  below : Below w.heap.size w y
  box : Blk y w.heap.size 27 cs
  view : Blk y (w.heap.size + 1) 52 vs
theorem PH.next {w y y' : World} {cs vs : Array Value} (h : PH w cs vs y) (hb : Below y.heap.size y y') : PH w cs vs y' := ⟨h.below.trans (hb.mono h.below.size), h.box.next hb, h.view.next hb⟩
theorem three_of_fiveH {w : World} {a : Nat → Addr} (h : Env w a) : Sent [0, 1, 2] w a := h.sent.mono (fun g hg => by
  simp only [five, List.mem_cons, List.not_mem_nil, or_false] at hg ⊢
  omega)
theorem index_of_infix {s sub : List UInt8} (h : sub <:+: s) : 0 ≤ Lib.index s sub := by
  obtain ⟨a, b, hab⟩ := h
  induction a generalizing s with
  | nil =>
    have hp : sub.isPrefixOf s = true := by rw [List.isPrefixOf_iff_prefix, ← hab]; simp
    cases s with
    | nil =>
      have : sub = [] := by cases sub with | nil => rfl | cons x y => simp at hp
      subst this
      decide
    | cons x l =>
      unfold Lib.index
      rw [if_pos hp]
      decide
  | cons x a ih =>
    subst hab
    have ih' := ih (s := a ++ sub ++ b) rfl
    show 0 ≤ Lib.index (x :: (a ++ sub ++ b)) sub
    unfold Lib.index
    split
    · decide
    · split
      · rename_i h1
        have := beq_iff_eq.1 h1
        omega
      · omega
theorem contains_any (s sub : ByteArray) (m : Int) (w : World) (hs : s.size ≤ 100) (hm : w.cell? ⟨6, 0, none⟩ = some (.int .i64 m)) (h : sub.data.toList <:+: s.data.toList) :
    Calls Tryd.prog 37 #[.string s, .string sub] w fun e w' => e = .returned (.bool true) ∧ w' = w := by
  have HI := hide (indexI_any s sub m w (by omega) hm)
  have hi := index_of_infix h
  generalize Lib.index s.data.toList sub.data.toList = n at *
  clear hm h
  have d1 : decide (0 ≤ n) = true := decide_eq_true hi
  go_enter Tryd.func37, Tryd.ntmps37
  go_wp2_with fail
  refine HI.out.mono ?_
  rintro e w' ⟨rfl, rfl⟩
  go_wp2_with fail
  refine bodyPost_ret (v := .bool true) (by simp [results, Tryd.results37, go_sem]) rfl ?_
  exact ⟨rfl, rfl⟩
theorem byte_atH {s : ByteArray} {n : Nat} (h : n < s.size) : s.data.toList[n]? = some (s[n]'h) := by
  rw [List.getElem?_eq_getElem (by rw [Array.length_toList]; exact h)]
  rfl
theorem piece_bytes (s : ByteArray) (i j : Nat) : (s.extract i j).data.toList = pc s.data.toList i j := by
  rw [ByteArray.data_extract, Array.toList_extract]
  rfl
/-- What holds of each piece that a right tree takes. -/
theorem piece_facts {x : Sc} (hm : ∀ i, x.mark i < 4) {t : T} (hck : t.check = none) {i j : Nat} (hi : i ≤ x.len) (hR : t.R x i j) :
    i ≤ j ∧ j ≤ x.len ∧ t.req.data.toList <:+: (x.text.extract i j).data.toList ∧ (t.only.isSome = true → x.text.extract i j = t.only.getD ⟨#[]⟩) ∧ (i = j → t.mayNull = true) ∧ (i < j → t.firsts (x.text.data.toList.getD i 0).toNat = true) := by
  have hf := (T.check_none hck).1
  obtain ⟨f1, f2⟩ := T.R_fwd x t i j hR
  obtain ⟨g1, g2⟩ := T.first_piece hm hck hR
  refine ⟨f1, f2 hi, ?_, fun ho => ?_, g1, fun h => (g2 h).2⟩
  · rw [piece_bytes]
    exact T.req_piece x t i j hf hR
  · obtain ⟨u, hu⟩ := Option.isSome_iff_exists.1 ho
    rw [hu, Option.getD_some]
    have hp := T.only_piece x t u i j hf hu hR
    apply ByteArray.ext
    apply Array.toList_inj.1
    rw [piece_bytes]
    exact hp
theorem T.req_only {t : T} {u : ByteArray} (h : t.only = some u) : t.req = u := by
  obtain ⟨hd, l⟩ := t
  rw [T.req, h]
  rfl
theorem ne_of_size {P : ByteArray} (h : 0 < P.size) : P.toList.isEmpty = false ∧ ¬ P.toList = [] := by
  have e0 : ¬ P.toList = [] := by
    rw [ByteArray.toList_eq]
    intro h1
    have := congrArg List.length h1
    rw [Array.length_toList] at this
    have h5 : P.data.size = P.size := rfl
    have h6 : ([] : List UInt8).length = 0 := rfl
    omega
  exact ⟨by rw [List.isEmpty_eq_false_iff]; exact e0, e0⟩
theorem beq_selfH (x : ByteArray) : (x.toList == x.toList) = true := by rw [toList_beq]; simp
set_option maxRecDepth 100000 in
set_option maxHeartbeats 4000000 in
theorem holdsLaw_true (t : T) (A : Option Addr) (c : Nat) (s : ByteArray) (cf ef : Int) (w : World) (a : Nat → Addr) (m : Int) (hwf : t.wf) (hin : T.In w (· < w.heap.size) t A) (hs : s.size ≤ 140737488355328) (hcf : IsI64 cf) (hef : IsI64 ef) (hE : Env w a) (hm : w.cell? ⟨6, 0, none⟩ = some (.int .i64 m)) :
    Calls Tryd.prog 9 #[.agg (t.hd.cells (.slice A t.subs.length c)).toArray, .agg [.string s, .int .i64 cf, .int .i64 ef].toArray] w fun e w' => e = .returned (.bool true) ∧ Below w.heap.size w w' := by
  have hne := fun y ad => run_neq_iface_nil (P := Tryd.prog) (w := y) 49 (by kernel_rfl) 169 (.pointer (some ad))
  have hnn := fun y => run_neq_nil_nil_at (P := Tryd.prog) (w := y) 49 (by kernel_rfl)
  have HI := hide (fun x (hx : Below w.heap.size w x) => (hin.same (same_of_below hx) (fun y hy => Nat.lt_of_lt_of_le hy hx.size) : T.In x (· < x.heap.size) t A))
  have HLv := hide (fun y (hy : Below w.heap.size w y) => lives20_any y a (hE.below hy).tab (three_of_fiveH (hE.below hy)))
  have HLg := hide (fun (y : World) (hy : Below w.heap.size w y) => longN_any t A c y hwf (HI.out y hy))
  have HCk := hide (fun (hN : t.nodes ≤ 2500) (y : World) (hy : Below w.heap.size w y) => check_any t A c y a (Nat.le_trans hN (by decide)) (HI.out y hy) (three_of_fiveH (hE.below hy)))
  have HOn := hide (fun (hN : t.nodes ≤ 2500) (x : World) (hx : Below w.heap.size w x) => Only_any t A c x a (Nat.le_trans hN (by decide)) hwf (hE.below hx).tab (three_of_fiveH (hE.below hx)) (HI.out x hx))
  have HRq := hide (fun (hN : t.nodes ≤ 2500) (x : World) (hx : Below w.heap.size w x) => Required_any t A c x a (Nat.le_trans hN (by decide)) hwf (hE.below hx).tab (three_of_fiveH (hE.below hx)) (HI.out x hx))
  have HFi := hide (fun (hN : t.nodes ≤ 2500) (x : World) (hx : Below w.heap.size w x) => firsts_any t A c x a (Nat.le_trans hN (by decide)) hwf (three_of_fiveH (hE.below hx)) (HI.out x hx))
  have HR := hide (fun (hN : t.nodes ≤ 2500) (hck : t.check = none) (x : Sc) (b m : Nat) (i : Nat) (hi : i ≤ x.len) (hl : x.len ≤ 20) (y : World) (hy : Below w.heap.size w y) (hsc : Scn y b m x) => ends_fine t A c (i : Int) a (Nat.le_trans hN (by decide)) hwf (by unfold IsI64; omega) (by omega) (by omega) (by omega) hck y (HI.out y hy) hsc (hE.below hy))
  have HML := hide (fun (y : World) (hy : Below w.heap.size w y) => (hy.cell (World.block_lt_of_cell? w _ hm)).trans hm)
  have HPF := hide (fun (hck : t.check = none) (x : Sc) (hm : ∀ i, x.mark i < 4) (hx : x.text = s) (i j : Nat) (hi : i ≤ s.size) (hR : t.R x i j) => (by
    have h := piece_facts hm hck (by rw [show x.len = s.size by rw [← hx]; rfl]; exact hi) hR
    rw [show x.len = s.size by rw [← hx]; rfl, hx] at h
    exact h : i ≤ j ∧ j ≤ s.size ∧ t.req.data.toList <:+: (s.extract i j).data.toList ∧ (t.only.isSome = true → s.extract i j = t.only.getD ⟨#[]⟩) ∧ (i = j → t.mayNull = true) ∧ (i < j → t.firsts (s.data.toList.getD i 0).toNat = true)))
  have HSZ := hide (fun (hck : t.check = none) => (And.intro (T.req_size t (T.form_of_check0 hck)) (by
    cases ho : t.only with
    | none => exact ⟨by decide, fun h => by cases h⟩
    | some u => exact ⟨T.only_size t (T.form_of_check0 hck) u ho, fun _ => T.req_only ho⟩ : (t.only.getD ⟨#[]⟩).size ≤ 64 ∧ (t.only.isSome = true → t.req = t.only.getD ⟨#[]⟩))))
  clear hin hE hwf hm
  simp only [Hd.cells] at HLg HCk HOn HRq HFi HR ⊢
  have hbel := ((Below.refl w.heap.size w).alloc (Nat.le_refl _) (.cells #[.int .i64 t.hd.kind, .int .u64 t.hd.s0, .int .u64 t.hd.s1, .int .u64 t.hd.s2, .int .u64 t.hd.s3, .slice A t.subs.length c, .int .i64 t.hd.num, .int .i64 t.hd.min, .int .i64 t.hd.max, .bool t.hd.bare] 27)).alloc (by simp) (.cells #[.string s, .int .i64 cf, .int .i64 ef] 52)
  have hbt := (Blk.new w 27 #[.int .i64 t.hd.kind, .int .u64 t.hd.s0, .int .u64 t.hd.s1, .int .u64 t.hd.s2, .int .u64 t.hd.s3, .slice A t.subs.length c, .int .i64 t.hd.num, .int .i64 t.hd.min, .int .i64 t.hd.max, .bool t.hd.bare]).alloc (.cells #[.string s, .int .i64 cf, .int .i64 ef] 52)
  have hbv := Blk.new (w.alloc (.cells #[.int .i64 t.hd.kind, .int .u64 t.hd.s0, .int .u64 t.hd.s1, .int .u64 t.hd.s2, .int .u64 t.hd.s3, .slice A t.subs.length c, .int .i64 t.hd.num, .int .i64 t.hd.min, .int .i64 t.hd.max, .bool t.hd.bare] 27)) 52 #[.string s, .int .i64 cf, .int .i64 ef]
  rw [World.size_alloc] at hbv
  have H0 := hide (PH.mk hbel hbt hbv)
  clear hbel hbt hbv
  go_enter Tryd.func9, Tryd.ntmps9
  go_wp2_with fail
  generalize ((w.alloc (.cells #[.int .i64 t.hd.kind, .int .u64 t.hd.s0, .int .u64 t.hd.s1, .int .u64 t.hd.s2, .int .u64 t.hd.s3, .slice A t.subs.length c, .int .i64 t.hd.num, .int .i64 t.hd.min, .int .i64 t.hd.max, .bool t.hd.bare] 27)).alloc (.cells #[.string s, .int .i64 cf, .int .i64 ef] 52)) = w0 at *
  refine (HLv.out w0 H0.out.below).mono ?_
  rintro e w1 ⟨rfl, hb⟩
  have H1 := hide (H0.out.next hb)
  clear hb HLv H0
  have c1 := H1.out.box.cell
  have v1 := H1.out.view.cell
  go_wp2_with fail
  refine (HLg.out w1 H1.out.below).mono ?_
  rintro e w2 ⟨lg, rfl, hlg, hb⟩
  have H2 := hide (H1.out.next hb)
  clear hb H1 HLg c1 v1
  have c2 := H2.out.box.cell
  have v2 := H2.out.view.cell
  cases lg with
  | true =>
    clear hlg
    go_wp2_with fail
    go_ret
    exact ⟨rfl, H2.out.below⟩
  | false =>
  have hN := hlg rfl
  clear hlg
  by_cases h20 : (20 : Int) < (s.size : Int)
  · have g1 : decide ((20 : Int) < (s.size : Int)) = true := decide_eq_true h20
    have g2 : 20 < s.size := by omega
    go_wp2_with fail
    go_ret
    exact ⟨rfl, H2.out.below⟩
  have g1 : decide ((20 : Int) < (s.size : Int)) = false := decide_eq_false h20
  have g2 : ¬ 20 < s.size := by omega
  have hs20 : s.size ≤ 20 := by omega
  go_wp2_with fail
  refine (HCk.out hN w2 H2.out.below).mono ?_
  rintro e w3 ⟨rfl, hb⟩
  have H3 := hide (H2.out.next hb)
  clear hb H2 HCk c2 v2
  have c3 := H3.out.box.cell
  have v3 := H3.out.view.cell
  cases hck : t.check with
  | some q =>
    simp only [errOf, errV]
    clear hck HPF HSZ HR HOn HRq HFi
    go_wp2_with fail
    go_ret
    exact ⟨rfl, H3.out.below⟩
  | none =>
  simp only [errOf]
  rw [hck] at HOn HRq
  simp only at HOn HRq
  have HR := hide (HR.out hN hck)
  have HPF := hide (HPF.out hck)
  have HSZ := hide (HSZ.out hck)
  clear hck
  unfold optV at HOn
  generalize t.only.getD ⟨#[]⟩ = one at *
  generalize t.only.isSome = oi at *
  generalize t.req = rq at *
  generalize t.firsts = S at *
  generalize t.mayNull = nb at *
  go_wp2_with fail
  refine (new_any s cf ef w3 hs).mono ?_
  rintro e w4 ⟨b, mr, x, rfl, hscn, hxt, _, _, _, hb⟩
  have hxl : x.len = s.size := by rw [← hxt]; rfl
  have HX := hide (And.intro hxt hscn.small)
  have H4 := hide (And.intro (H3.out.next hb) hscn)
  clear hb hscn hxt H3 c3 v3
  have c4 := H4.out.1.box.cell
  go_wp2_with fail
  refine (HRq.out hN w4 H4.out.1.below).mono ?_
  rintro e w5 ⟨rfl, hb⟩
  have H5 := hide (And.intro (H4.out.1.next hb) (H4.out.2.below hb))
  clear hb HRq H4 c4
  have c5 := H5.out.1.box.cell
  go_wp2_with fail
  refine (HOn.out hN w5 H5.out.1.below).mono ?_
  rintro e w6 ⟨rfl, hb⟩
  have H6 := hide (And.intro (H5.out.1.next hb) (H5.out.2.below hb))
  clear hb HOn H5 c5
  have c6 := H6.out.1.box.cell
  go_wp2_with fail
  refine (HFi.out hN w6 H6.out.1.below).mono ?_
  rintro e w7 ⟨rfl, hb⟩
  have H7 := hide (And.intro (H6.out.1.next hb) (H6.out.2.below hb))
  clear hb HFi H6 c6
  unfold setV setC
  go_upto_region 9 with fail
  have hbs := Blk.new w7 24 #[.int .u64 ((wd S 0 : Nat) : Int), .int .u64 ((wd S 1 : Nat) : Int), .int .u64 ((wd S 2 : Nat) : Int), .int .u64 ((wd S 3 : Nat) : Int)]
  have hal := (Below.refl w7.heap.size w7).alloc (Nat.le_refl _) (.cells #[.int .u64 ((wd S 0 : Nat) : Int), .int .u64 ((wd S 1 : Nat) : Int), .int .u64 ((wd S 2 : Nat) : Int), .int .u64 ((wd S 3 : Nat) : Int)] 24)
  have H8 := hide (And.intro (H7.out.1.next hal) (And.intro (H7.out.2.below hal) hbs))
  clear hbs hal H7
  generalize (w7.alloc (.cells #[.int .u64 ((wd S 0 : Nat) : Int), .int .u64 ((wd S 1 : Nat) : Int), .int .u64 ((wd S 2 : Nat) : Int), .int .u64 ((wd S 3 : Nat) : Int)] 24)) = w8 at *
  generalize w7.heap.size = gs at *
  go_wp2_with fail
  go_loopw [11] (fun iv wr => ∃ i : Nat, iv = .int .i64 (i : Int) ∧ i ≤ s.size + 1 ∧ PH w #[.int .i64 t.hd.kind, .int .u64 t.hd.s0, .int .u64 t.hd.s1, .int .u64 t.hd.s2, .int .u64 t.hd.s3, .slice A t.subs.length c, .int .i64 t.hd.num, .int .i64 t.hd.min, .int .i64 t.hd.max, .bool t.hd.bare] #[.string s, .int .i64 cf, .int .i64 ef] wr ∧ Scn wr b mr x ∧ Blk wr gs 24 #[.int .u64 ((wd S 0 : Nat) : Int), .int .u64 ((wd S 1 : Nat) : Int), .int .u64 ((wd S 2 : Nat) : Int), .int .u64 ((wd S 3 : Nat) : Int)]) (fun iv _ => s.size + 1 - (intOf iv).toNat)
  case atStart => exact ⟨0, rfl, by omega, H8.out.1, H8.out.2.1, H8.out.2.2⟩
  case round =>
    obtain ⟨i, rfl, hi, hpv, hx, hst⟩ := hrel
    have HH := hide (And.intro hpv (And.intro hx hst))
    clear hpv hx hst H8
    have cv := HH.out.1.view.cell
    by_cases hlt : i ≤ s.size
    case neg =>
      have g5 : decide ((i : Int) ≤ (s.size : Int)) = false := decide_eq_false (by omega)
      have g6 : ¬ (i : Int) ≤ (s.size : Int) := by omega
      obtain ⟨z1, z2, z3⟩ := HSZ.out
      have z4 : decide ((rq.size : Int) ≤ 64) = true := decide_eq_true (by omega)
      have z5 : decide ((one.size : Int) ≤ 64) = true := decide_eq_true (by omega)
      have z6 : (rq.size : Int) ≤ 64 := by omega
      have z7 : (one.size : Int) ≤ 64 := by omega
      cases oi with
      | true =>
        obtain rfl := z3 rfl
        have z8 := beq_selfH rq
        clear z3
        go_wp2_with fail
        go_ret
        exact ⟨rfl, HH.out.1.below⟩
      | false =>
        clear z3
        go_wp2_with fail
        go_ret
        exact ⟨rfl, HH.out.1.below⟩
    have g5 : decide ((i : Int) ≤ (s.size : Int)) = true := decide_eq_true (by omega)
    have g6 : (i : Int) ≤ (s.size : Int) := by omega
    have cr := HH.out.1.box.cell
    go_wp2_with fail
    refine (HR.out x b mr i (by omega) (by omega) wr HH.out.1.below HH.out.2.1).mono ?_
    rintro e w9 ⟨v, r, rfl, hown, hends, hb⟩
    have hall : ∀ (q : Nat) (z : Int), r[q]? = some z → ∃ j : Nat, z = (j : Int) ∧ t.R x i j := fun q z hz => by
      have hmem : z ∈ r := List.mem_of_getElem? hz
      obtain ⟨j, e, _⟩ := hends.nat hmem
      have := (hends.mem (by omega) j).1 (by rw [← e]; exact hmem)
      rw [Int.toNat_natCast] at this
      exact ⟨j, e, this⟩
    have H9 := hide (And.intro (HH.out.1.next hb) (And.intro (HH.out.2.1.below hb) (And.intro (HH.out.2.2.next hb) hown)))
    have HAll := hide hall
    obtain ⟨LA, lc, rfl, hrl, hcell⟩ := hown.form
    have HCe := hide hcell
    clear hb hown hends hall hcell HH cr cv
    go_wp2_with fail
    go_loopw [69] (fun kv wr => ∃ k : Nat, kv = .int .i64 (k : Int) ∧ k ≤ r.length ∧ Below w9.heap.size w9 wr) (fun kv _ => r.length - (intOf kv).toNat)
    case atStart => exact ⟨0, rfl, Nat.zero_le _, Below.refl _ _⟩
    case round =>
      obtain ⟨k, rfl, hk, hbel⟩ := hrel
      have HB := hide hbel
      clear hbel
      by_cases hkl : k < r.length
      case neg =>
        have g7 : decide ((k : Int) < (r.length : Int)) = false := decide_eq_false (by omega)
        have g8 : ¬ (k : Int) < (r.length : Int) := by omega
        have HE := hide (And.intro (H9.out.1.next HB.out) (And.intro (H9.out.2.1.below HB.out) (H9.out.2.2.1.next HB.out)))
        go_wp2_with fail
        go_roundw
        case rel => exact ⟨i + 1, by go_num, by omega, HE.out.1, HE.out.2.1, HE.out.2.2⟩
        case measure => simp [intOf]; omega
      have g7 : decide ((k : Int) < (r.length : Int)) = true := decide_eq_true (by omega)
      have g8 : (k : Int) < (r.length : Int) := by omega
      obtain ⟨z, hz⟩ : ∃ z, r[k]? = some z := ⟨_, List.getElem?_eq_getElem hkl⟩
      obtain ⟨j, rfl, hR⟩ := HAll.out k z hz
      obtain ⟨g, rfl, _, hgl, hce⟩ := HCe.out k _ hz
      obtain ⟨p1, p2, p3, p4, p5, p6⟩ := HPF.out x HX.out.2 HX.out.1 i j hlt hR
      have hce' := (HB.out.cell (World.block_lt_of_cell? _ _ hce)).trans hce
      have HE := hide (And.intro (H9.out.1.next HB.out) (And.intro (H9.out.2.1.below HB.out) (H9.out.2.2.1.next HB.out)))
      have cv := HE.out.1.view.cell
      have hij : (i : Int) ≤ (j : Int) := by omega
      have hjs : (j : Int) ≤ (s.size : Int) := by omega
      obtain ⟨P, hPe⟩ : ∃ P, P = s.extract i j := ⟨_, rfl⟩
      have hpl : P.size = j - i := by rw [hPe, ByteArray.size_extract]; omega
      have HPC := hide (show rq.data.toList <:+: P.data.toList by rw [hPe]; exact p3)
      have HP4 := hide (fun h : oi = true => hPe.trans (p4 h))
      have HPP := hide (And.intro p5 p6)
      have hb0 : ∀ h : 0 < P.size, (P[0]'h) = s.data.toList.getD i 0 := by
        subst hPe
        intro h
        have h2 : i < s.size := by omega
        have h3 := piece_bytes s i j
        have h4 := byte_atH h
        rw [h3] at h4
        unfold pc at h4
        rw [List.getElem?_take_of_lt (by omega), List.getElem?_drop, Nat.add_zero] at h4
        rw [List.getD_eq_getElem?_getD, h4, Option.getD_some]
      have HB0 := hide hb0
      have HEP := hide hPe
      clear hz hR hgl hce p3 p4 p5 p6 hb0 hPe
      go_wp2_with fail
      rw [← HEP.out]
      refine (contains_any P rq m wr (by omega) (HML.out wr HE.out.1.below) HPC.out).mono ?_
      rintro e w10 ⟨rfl, hw⟩
      subst hw
      clear HPC HCe hce' cv
      by_cases hemp : i = j
      · have hP0 : P = ⟨#[]⟩ := size_zero (by omega)
        have e1 : P.toList.isEmpty = true := by rw [hP0, ByteArray.toList_eq] <;> rfl
        have e2 : P.toList = [] := by rw [hP0, ByteArray.toList_eq] <;> rfl
        have hnb : nb = true := HPP.out.1 hemp
        subst hnb
        clear hP0 hemp
        cases oi with
        | true =>
          have hPo := HP4.out rfl
          have z1 : (P.toList == one.toList) = true := by rw [hPo]; exact beq_selfH _
          have z2 : P.toList = one.toList := by rw [hPo]
          have z3 : one.toList = [] := by rw [← z2]; exact e2
          have z4 : one.toList.isEmpty = true := by rw [z3]; rfl
          clear hPo
          go_upto_region 21 with fail
          try clear z1 z2 z3 z4
          refine wp_region_later (by kernel_rfl) (by kernel_rfl) ?_
          repeat (go_big_quiet_step (fail))
          refine wpQuiet_nil ?_
          rintro w11 ⟨yy, rfl⟩
          have HF := hide (HB.out.trans (yy.2.mono HB.out.size))
          go_wp2_with fail
          go_roundw
          case rel => exact ⟨k + 1, by go_num, hkl, HF.out⟩
          case measure => simp [intOf]; omega
        | false =>
          go_upto_region 21 with fail
          try clear z1 z2 z3 z4
          refine wp_region_later (by kernel_rfl) (by kernel_rfl) ?_
          repeat (go_big_quiet_step (fail))
          refine wpQuiet_nil ?_
          rintro w11 ⟨yy, rfl⟩
          have HF := hide (HB.out.trans (yy.2.mono HB.out.size))
          go_wp2_with fail
          go_roundw
          case rel => exact ⟨k + 1, by go_num, hkl, HF.out⟩
          case measure => simp [intOf]; omega
      · have hP1 : 0 < P.size := by omega
        clear hpl
        have e0 : ¬ P.toList = [] := by
          rw [ByteArray.toList_eq]
          intro h
          have := congrArg List.length h
          rw [Array.length_toList] at this
          have h5 : P.data.size = P.size := rfl
          have h6 : ([] : List UInt8).length = 0 := rfl
          omega
        have e1 : P.toList.isEmpty = false := by rw [List.isEmpty_eq_false_iff]; exact e0
        have hb256 := (P[0]'hP1).toNat_lt
        have hS : S ((P[0]'hP1).toNat) = true := by rw [HB0.out hP1]; exact HPP.out.2 (by omega)
        have hh := fun (yy : Later w10) => has20_any S ((P[0]'hP1).toNat) hb256 yy.val
        rw [hS] at hh
        have HHas := hide hh
        have cs := fun (yy : Later w10) => (HE.out.2.2.next yy.2).cell
        have d3 : (0 : Int) ≤ 0 ∧ (0 : Int) < (P.size : Int) := by omega
        have d4 : (0 : Int) < (P.size : Int) := by omega
        unfold setV setC at HHas
        clear hh hS hemp
        cases oi with
        | true =>
          have hPo := HP4.out rfl
          have z1 : (P.toList == one.toList) = true := by rw [hPo]; exact beq_selfH _
          have z2 : P.toList = one.toList := by rw [hPo]
          have z3 : one.toList.isEmpty = false := by rw [← z2]; exact e1
          have z4 : ¬ one.toList = [] := by rw [← z2]; exact e0
          clear hPo
          go_upto_region 21 with fail
          try clear z1 z2 z3 z4
          obtain ⟨e1', e0'⟩ := ne_of_size hP1
          refine wp_region_later (by kernel_rfl) (by kernel_rfl) ?_
          repeat (go_big_quiet_step (exact calls_later (HHas.out _)))
          refine wpQuiet_nil ?_
          rintro w11 ⟨yy, rfl⟩
          have HF := hide (HB.out.trans (yy.2.mono HB.out.size))
          go_wp2_with fail
          go_roundw
          case rel => exact ⟨k + 1, by go_num, hkl, HF.out⟩
          case measure => simp [intOf]; omega
        | false =>
          go_upto_region 21 with fail
          try clear z1 z2 z3 z4
          obtain ⟨e1', e0'⟩ := ne_of_size hP1
          refine wp_region_later (by kernel_rfl) (by kernel_rfl) ?_
          repeat (go_big_quiet_step (exact calls_later (HHas.out _)))
          refine wpQuiet_nil ?_
          rintro w11 ⟨yy, rfl⟩
          have HF := hide (HB.out.trans (yy.2.mono HB.out.size))
          go_wp2_with fail
          go_roundw
          case rel => exact ⟨k + 1, by go_num, hkl, HF.out⟩
          case measure => simp [intOf]; omega
end Go.Proofs.YtbbhobojghmkpaaDoor

/-! ## NeedHoldsProof -/
namespace Go.Proofs.YtbbhobojghmkpaaDoor
open Go.ChangeShapes Go.WideShapes Go.ChangeAt Go.RowKit

theorem own : ownKnob Tryd.prog.godebug = none := by kernel_rfl
theorem laidOut : laidOutB Tryd.prog = true := by kernel_rfl
theorem star : ("*" ++ "errors.errorString" : String) = "*errors.errorString" := by decide
theorem rowE (u : TypeId) (h : Tryd.prog.typeName? 3 u = some "*errors.errorString") : u = 169 :=
  typeName_ptr_named (nm := "errors.errorString") (by rw [star]; kernel_rfl) (by kernel_rfl) (by decide) u (by rw [star]; exact h)

theorem agg_of {v : Value} {cs : Array Value} {l : List Value} (h : v = .agg cs) (hl : v.cells.toList = l) : v = .agg l.toArray := by
  subst h
  subst hl
  simp [Value.cells]

theorem env_of_laid {W : World} (h : laidMetH Tryd.prog Rows.needHoldsRow.laid W) : ∃ a, Env W a := by
  rw [Go.MakeChecks.laidMetH_plain Tryd.prog Rows.needHoldsRow.laid W (by kernel_rfl)] at h
  have ht := tab_of_met h (by simp only [Rows.needHoldsRow, Rows.laid_math_bits_deBruijn64tab]; exact List.mem_of_getElem? (i := 0) rfl)
  obtain ⟨a, ha⟩ := sent_of_met (S := five) h rowE (fun g hg => by
    simp only [five, List.mem_cons, List.not_mem_nil, or_false] at hg
    rcases hg with e | e | e | e | e <;> subst e
    · exact ⟨ "trawl/api.ErrTooBig", _, List.mem_of_getElem? (i := 1) rfl, by kernel_rfl, by kernel_rfl⟩
    · exact ⟨ "trawl/api.ErrLong", _, List.mem_of_getElem? (i := 2) rfl, by kernel_rfl, by kernel_rfl⟩
    · exact ⟨ "trawl/api.ErrTree", _, List.mem_of_getElem? (i := 3) rfl, by kernel_rfl, by kernel_rfl⟩
    · exact ⟨ "trawl/api.ErrDeep", _, List.mem_of_getElem? (i := 4) rfl, by kernel_rfl, by kernel_rfl⟩
    · exact ⟨ "trawl/api.ErrArgument", _, List.mem_of_getElem? (i := 5) rfl, by kernel_rfl, by kernel_rfl⟩)
  exact ⟨a, ha, ht⟩

theorem door_met (os : Os) (args : Array Value) : laidMetH Tryd.prog Rows.needHoldsRow.laid ((World.doorLaid Tryd.prog 420 os).forCall (fun _ _ => 0) ⟨#[], args, []⟩).memory :=
  laidMetH_of_parts3 (fuel := 8) (laidMet_of_run' 8 (by kernel_rfl) (by kernel_rfl)) (by kernel_rfl) (by kernel_rfl)

set_option maxRecDepth 100000 in
theorem contract (H : Type) (enc : TypeId × Value → H) (W : World) (base : Nat) (args : Array Value) (ds gs : List (DataW H)) (before : List MemPlace)
    (hval0 : ∀ (j : Nat) t v, Tryd.f9.params[j]? = some t → args[j]? = some v → Value.okWide Tryd.prog W .any base t v)
    (hW : DataW.Whole enc Tryd.prog Tryd.f9.params.toList Rows.needHoldsSpec.vars false W args.toList ds gs before) (hsz : (DataW.weightsEach Tryd.prog (Tryd.f9.params.toList ++ []) (ds ++ gs)).all (· ≤ reachBytes) = true) (hL : laidMetH Tryd.prog Rows.needHoldsRow.laid W) (hsh : W.ShapedOpen Tryd.prog) :
    Calls Tryd.prog 9 args W fun e W' => ∃ v, e = .returned v ∧ Rows.needHoldsSpec.post enc Tryd.prog Tryd.f9 false true false false W args v W' := by
  have hval : ∀ (j : Nat) t v, Tryd.f9.params[j]? = some t → args[j]? = some v → Value.okWide Tryd.prog W .any base t v := hval0
  have hW' := hW
  obtain ⟨p, q, hA0, hV, rfl, hfz, hnd⟩ := hW
  have hA : DataW.TrodAll enc Tryd.prog W 0 (fun _ => true) true Tryd.f9.params.toList args.toList ds p := hA0
  rw [Tryd.params9] at hA hval hsz
  obtain ⟨v0, vs0, d0, ds0, p0, q0, e0, rfl, rfl, h0, r0⟩ := trodAll_cons hA
  obtain ⟨v1, vs1, d1, ds1, p1, q1, e1, rfl, rfl, h1, r1⟩ := trodAll_cons r0
  obtain ⟨rfl, rfl, rfl⟩ := trodAll_nil r1
  subst e1
  obtain rfl : args = #[v0, v1] := by cases args; simp_all
  obtain ⟨rfl, rfl⟩ := trodVars_none hV
  have k0 := h0
  have lt0 : ∀ x ∈ p0, x.block < W.heap.size := by obtain ⟨m, hm⟩ := k0; exact DataW.trod_lt m _ _ _ hm
  have k1 := h1
  have lt1 : ∀ x ∈ p1, x.block < W.heap.size := by obtain ⟨m, hm⟩ := k1; exact DataW.trod_lt m _ _ _ hm
  obtain ⟨t0, A0, c0, e0, hin0, hwf0⟩ : ∃ (t : T) (A : Option Addr) (c : Nat), v0.cells.toList = t.hd.cells (.slice A t.subs.length c) ∧ T.In W (· < W.heap.size) t A ∧ t.wf := by
    obtain ⟨fuel, hf⟩ := h0
    exact trod_node fuel _ _ hf
  obtain ⟨cs0, hv0, _⟩ := okWide_struct Tryd.underlying27 (hval 0 27 v0 rfl rfl)
  have ev0 := agg_of hv0 e0
  clear hv0 e0
  subst ev0
  obtain ⟨s1, cf1, ef1, e1, hs1, hcf1, hef1⟩ : ∃ (s : ByteArray) (cf ef : Int), v1.cells.toList = [.string s, .int .i64 cf, .int .i64 ef] ∧ s.size ≤ 140737488355328 ∧ IsI64 cf ∧ IsI64 ef := by
    obtain ⟨fuel, hf⟩ := h1
    obtain ⟨s, cf, ef, g1, g2, g3, g4⟩ := trod_view fuel _ _ hf
    refine ⟨s, cf, ef, g1, ?_, g3, g4⟩
    have h1 := List.all_eq_true.1 hsz _ (DataW.weights_mem_each (j := 1) (t := 52) rfl rfl _ (view_weight g2))
    have h2 := reachBytes_lt
    simp at h1
    omega
  obtain ⟨cs1, hv1, _⟩ := okWide_struct Tryd.underlying52 (hval 1 52 v1 rfl rfl)
  have ev1 := agg_of hv1 e1
  clear hv1 e1
  subst ev1
  obtain ⟨a, ha⟩ := env_of_laid hL
  obtain ⟨m, hm⟩ := maxLen_int hsh
  clear hA0 hval0 hval hA
  refine (holdsLaw_true t0 A0 c0 s1 cf1 ef1 W a m hwf0 hin0 hs1 hcf1 hef1 ha hm).mono fun e W' ⟨he, bel⟩ => ?_
  subst he
  exact ⟨_, rfl, _, _, _, [], _, [], hW', trodAll_mk1 (shut_bool Tryd.underlying4 _), (trodAll_cons_mk (Below.trod laidOut (by kernel_rfl) (of_decide_eq_true (by kernel_rfl)) k0 bel lt0) (trodAll_cons_mk (Below.trod laidOut (by kernel_rfl) (of_decide_eq_true (by kernel_rfl)) k1 bel lt1) trodAll_mk0)), rfl, bel.frame _, fun h => by cases h⟩

theorem reads (os : Os) {H : Type} (enc : TypeId × Value → H) : (DataW.whole enc Tryd.prog ((World.doorLaid Tryd.prog 420 os).forCall (fun _ _ => 0) ⟨#[], #[.agg zeroCells, .agg #[.string ⟨#[]⟩, .int .i64 0, .int .i64 0]], []⟩).memory Tryd.f9.params.toList Rows.needHoldsSpec.vars false #[.agg zeroCells, .agg #[.string ⟨#[]⟩, .int .i64 0, .int .i64 0]].toList 8).isSome = true := by kernel_rfl

theorem witness (os : Os) (H : Type) (enc : TypeId × Value → H) : ∃ (w : World) (tape : Tape) (i : Input), w.os = os ∧ (w.forCall tape i).Shaped Tryd.checked.prog ∧ i.vars = [] ∧ Input.okWide Tryd.checked.prog (w.forCall tape i) .any w.heap.size 9 i ∧
      ((OpenSpec.ofChange Rows.needHoldsSpec).preRow enc Tryd.checked.prog Tryd.f9 Rows.needHoldsRow.domain false Rows.needHoldsRow.laid (w.forCall tape i).memory i.args ∧ ({} : Assume).holds Tryd.checked.prog (lone (Frame.enter Tryd.checked.prog 9 i.args .normal) [] (w.forCall tape i))) := by
  obtain ⟨x, hx⟩ := Option.isSome_iff_exists.1 (reads os enc)
  have hok : Input.okWideB Tryd.checked.prog ((World.doorLaid Tryd.prog 420 os).forCall (fun _ _ => 0) ⟨#[], #[.agg zeroCells, .agg #[.string ⟨#[]⟩, .int .i64 0, .int .i64 0]], []⟩) 9 ⟨#[], #[.agg zeroCells, .agg #[.string ⟨#[]⟩, .int .i64 0, .int .i64 0]], []⟩ = true := by kernel_rfl
  refine ⟨World.doorLaid Tryd.prog 420 os, fun _ _ => 0, ⟨#[], #[.agg zeroCells, .agg #[.string ⟨#[]⟩, .int .i64 0, .int .i64 0]], []⟩, rfl, World.shaped_of_RefB (by kernel_rfl) (by kernel_rfl), (Input.okWide_of_okWideB (base := 0) hok).1, (Input.okWide_of_okWideB hok).2, OpenSpec.preRow_of_cond 8 hx rfl (fun k hk => by cases hk) (by kernel_rfl) (door_met os _), ?_⟩
  simp only [Assume.holds]
  exact ⟨by simp, by simp, fun _ => Modest.zero, by simp, by simp⟩

set_option maxRecDepth 100000 in
theorem lifted (os : Os) (started : os.Started) (H : Type) (enc : TypeId × Value → H) (F : Stop.Interp) :
    ReturnsInHanded {} Tryd.checked os 9 .any ((OpenSpec.ofChange Rows.needHoldsSpec).preRow enc Tryd.prog Tryd.f9 Rows.needHoldsRow.domain false Rows.needHoldsRow.laid) (((OpenSpec.ofChange Rows.needHoldsSpec).at F).post enc Tryd.prog Tryd.f9 false true false false) := by
  refine returnsInHanded_of_row (C := Tryd.checked) (s := (OpenSpec.ofChange Rows.needHoldsSpec)) own started (by kernel_rfl) Tryd.func9 (witness os H enc) ?_
  intro W base args ds gs before hval hW _ hcond hsz hL hsh _
  exact contract H enc W base args ds gs before hval hW hsz hL hsh

theorem said : Rows.NeedHoldsSaid :=
  OpenClaim.holds_of_cond 9 Tryd.f9 rfl rfl rfl rfl rfl rfl rfl ⟨rfl, rfl, rfl, rfl, rfl⟩ rfl rfl rfl rfl rfl (by kernel_rfl) Tryd.func9 (by kernel_rfl)
    (of_decide_eq_true (by kernel_rfl)) (by unfold Func.isWrapper; first | (rw [if_pos (by decide +kernel)]; kernel_rfl) | (rw [if_neg (by decide +kernel)]; exact ⟨rfl, rfl⟩))
    (fun os started H enc _ F => by rw [OpenClaim.pre_eq_preRow]; exact lifted os started H enc F)

theorem plain (f : FuncId) (fn : Func) (hf : Tryd.pinned.checked.prog.funcNamed "trawl/trawllaw20.NeedHolds" = some f) (hfn : Tryd.pinned.checked.prog.funcs[f]? = some fn) :
    false = Tryd.pinned.checked.prog.looks [] ∧ ∀ (j : Nat) t, fn.params[j]? = some t → Tryd.pinned.checked.prog.wantsStandIn t = false := by
  obtain rfl : f = 9 := Option.some.inj ((show Tryd.prog.funcNamed "trawl/trawllaw20.NeedHolds" = some 9 by kernel_rfl).symm.trans hf) |>.symm
  obtain rfl : fn = Tryd.f9 := (Option.some.inj (Tryd.func9.symm.trans hfn)).symm
  refine ⟨by kernel_rfl, fun j t ht => ?_⟩
  rw [Tryd.params9] at ht
  have hm := Array.mem_of_getElem? ht
  simp only [List.mem_toArray, List.mem_cons, List.not_mem_nil, or_false] at hm
  rcases hm with rfl | rfl
  · exact (show Tryd.prog.wantsStandIn 27 = false by kernel_rfl)
  · exact (show Tryd.prog.wantsStandIn 52 = false by kernel_rfl)

theorem needHolds_holds : Rows.NeedHoldsCardSaid :=
  Claim7.holds_tied_plain_at .later [] _ _ _ _ said (fun _ h => by cases h) (by kernel_rfl) (fun _ h => by cases h) needHolds_row_tie rfl ⟨rfl, rfl⟩ (by kernel_rfl) rfl plain (by kernel_rfl)
#print axioms needHolds_holds
end Go.Proofs.YtbbhobojghmkpaaDoor
