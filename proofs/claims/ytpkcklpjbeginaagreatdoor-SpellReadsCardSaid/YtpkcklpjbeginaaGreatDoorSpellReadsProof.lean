/- ReadsLaw8: trawllaw08.SpellReads: the law walked.
SpellReadsProof: trawl/trawllaw08.SpellReads: for every pattern, the call answers true, and what it was given reads afterwards as before; the program's variables lie as its text lays them (the card ties that). Conditions: those of the given card alone. (Printed by gen_card2.py.) -/
import Derived.Test.YtpkcklpjbeginaaGreatDoorEre8
import Derived.Test.YtpkcklpjbeginaaGreatDoorEreB
import Derived.Test.YtpkcklpjbeginaaGreatDoorTreeSame
import Derived.Test.YtpkcklpjbeginaaGreatDoorRows
import Derived.Test.YtpkcklpjbeginaaGreatDoorCards
import Derived.Test.YtpkcklpjbeginaaGreatDoorTie
import Derived.Test.YtpkcklpjbeginaaGreatDoorReads
import Derived.Test.YtpkcklpjbeginaaGreatDoorLaidAll
import Derived.Test.YtpkcklpjbeginaaGreatDoorShapeInt
import Derived.WalkKit
import Derived.ProofKit
import Derived.LaidMore
import Derived.LaidHandle
import Derived.OpenShut
import Derived.ChangeOld
import Derived.ChangeMaps5
import Derived.Below
import Derived.Stop.Joined
import Derived.Deep.DeepHandedRow
import Derived.SevenTiedAt
import Derived.MakeChecks
set_option linter.unusedSimpArgs false
set_option linter.unusedVariables false
set_option linter.unnecessarySimpa false

/-! ## ReadsLaw8 -/
namespace Go.Proofs.YtpkcklpjbeginaaGreatDoor
open Go.RowKit

/-! ### The words of what is read -/
section
variable {D : Nat → Nat → T → Prop}
theorem wd_u8 (S : Nat → Bool) (k : Nat) : IsU64 ((wd S k : Nat) : Int) := by
 have := wd_lt S k
 unfold IsU64; omega
theorem bytT_w (S : Nat → Bool) : (bytT S).w64 := ⟨⟨wd_u8 S 0, wd_u8 S 1, wd_u8 S 2, wd_u8 S 3⟩, trivial⟩
theorem atp_w (hD : ∀ g g' t, D g g' t → t.w64) {g g' : Nat} {t : T} (h : AtP D g g' t) : t.w64 := by
 rcases h with ⟨S, rfl, _⟩ | ⟨u, rfl, hu⟩
 ·exact bytT_w S
 ·exact ⟨⟨isU0, isU0, isU0, isU0⟩, ⟨hD _ _ _ hu, trivial⟩⟩
theorem pip_w (hD : ∀ g g' t, D g g' t → t.w64) {g g' : Nat} {t : T} (h : PiP D g g' t) : t.w64 := by
 rcases h with ⟨rfl, _⟩ | ⟨rfl, _⟩ | h | ⟨a, b, u, rfl, h, _⟩
 ·exact ⟨⟨isU0, isU0, isU0, isU0⟩, trivial⟩
 ·exact ⟨⟨isU0, isU0, isU0, isU0⟩, trivial⟩
 ·exact atp_w hD h
 ·exact ⟨⟨isU0, isU0, isU0, isU0⟩, ⟨atp_w hD h, trivial⟩⟩
theorem pil_w (hD : ∀ g g' t, D g g' t → t.w64) {g' : Nat} : ∀ (l : List T) (g : Nat), PiL D g' g l → TL.w64 l
 | [], _, _ => trivial
 | t :: l, g, ⟨g1, h1, h2⟩ => ⟨pip_w hD h1, pil_w hD l g1 h2⟩
theorem seq_w {l : List T} (h : TL.w64 l) : (T.seq l).w64 := by
 match l, h with
 | [], _ => exact ⟨⟨isU0, isU0, isU0, isU0⟩, trivial⟩
 | [t], h => exact h.1
 | a :: b :: r, h => exact ⟨⟨isU0, isU0, isU0, isU0⟩, h⟩
theorem alt_w {l : List T} (hl : l ≠ []) (h : TL.w64 l) : (T.alt l).w64 := by
 match l, hl, h with
 | [t], _, h => exact h.1
 | a :: b :: r, _, h => exact ⟨⟨isU0, isU0, isU0, isU0⟩, h⟩
theorem brl_w (hD : ∀ g g' t, D g g' t → t.w64) {g' : Nat} : ∀ (l : List T) (g : Nat), BrL D g' g l → TL.w64 l
 | [], _, _ => trivial
 | t :: l, g, ⟨g1, s, e, h1, h2⟩ => ⟨by rw [e]; exact seq_w (pil_w hD s g h1), brl_w hD l g1 h2⟩
theorem pap_w (hD : ∀ g g' t, D g g' t → t.w64) {g g' : Nat} {t : T} (h : PaP D g g' t) : t.w64 := by
 obtain ⟨l, hl, h1, rfl⟩ := h
 exact alt_w hl (brl_w hD l g h1)
end
theorem pad_w : ∀ (k g g' : Nat) (t : T), PaD k g g' t → t.w64
 | 0, g, g', t, h => pap_w (D := fun _ _ _ => False) (fun _ _ _ h => h.elim) h
 | k + 1, g, g', t, h => pap_w (D := PaD k) (fun g g' t h => pad_w k g g' t h) h
theorem parse_w {p : ByteArray} {ic nl : Bool} {t : T} {j n : Nat} (h : parseE p ic nl = .ok t j n) : t.w64 := pad_w 32 0 n t (deep_is 32 false 0 0 t p.size n (parse_in h).1)
mutual
theorem T.same_self8 : ∀ t : T, t.same t = true
 | .mk h l => by simp [T.same, show h.same h = true from Hd.same_iff.2 rfl, TL.same_self8 l]
theorem TL.same_self8 : ∀ l : List T, TL.same l l = true
 | [] => by simp [TL.same]
 | t :: l => by simp [TL.same, T.same_self8 t, TL.same_self8 l]
end
set_option maxRecDepth 100000 in
set_option maxHeartbeats 4000000 in
theorem spellReads_law (p : ByteArray) (a : Nat → Addr) (m : Int) (w : World) (hB : B5 w a m) (hE : E8 w a) : Calls Tryz.prog 5 #[.string p] w fun e w' => e = .returned (.bool true) ∧ Below w.heap.size w w' := by
 have HL := hide (lives8_true a w hE)
 have HEn := hide (fun (y : World) (hy : Below w.heap.size w y) => hE.below hy)
 have HP := hide (fun (s : ByteArray) (y : World) (hy : Below w.heap.size w y) => show Calls Tryz.prog 21 #[.string s, .int .i64 0] y (ParseIs (parseE s false false) a y) from by
  have h2 := ereParse_any s 0 a m y (hB.below hy)
  rw [fl_zero2, fl_zero4] at h2
  exact h2)
 clear hB hE
 go_enter Tryz.func5, Tryz.ntmps5
 go_wp2_with fail
 refine HL.out.mono ?_
 rintro e w1 ⟨rfl, hb1⟩
 have H1 := hide hb1
 clear hb1 HL
 go_wp2_with fail
 refine (HP.out p w1 H1.out).mono ?_
 rintro e w2 hz
 cases hr1 : parseE p false false with
 | bad c pl =>
  rw [hr1] at hz
  obtain ⟨gf, rfl, hfi, hb2⟩ := hz
  have hal := (Below.refl w2.heap.size w2).alloc (Nat.le_refl _) (.cells #[.int .i64 0, .int .u64 0, .int .u64 0, .int .u64 0, .int .u64 0, .slice none 0 0, .int .i64 0, .int .i64 0, .int .i64 0, .bool false] 27)
  have H3 := hide (H1.out.trans ((hb2.trans (hal.mono hb2.size)).mono H1.out.size))
  clear hfi hb2 hal hr1
  unfold faultV zeroCells
  go_upto_region 4 with fail
  generalize (w2.alloc (.cells #[.int .i64 0, .int .u64 0, .int .u64 0, .int .u64 0, .int .u64 0, .slice none 0 0, .int .i64 0, .int .i64 0, .int .i64 0, .bool false] 27)) = w3 at *
  have hn0 := fun w => run_neq_iface_nil (P := Tryz.prog) (w := w) 32 (by kernel_rfl) 83 (.pointer (some ⟨gf, 0, none⟩))
  go_wp2_with fail
  go_ret
  exact ⟨rfl, H3.out⟩
 | ok t j n =>
  rw [hr1] at hz
  obtain ⟨B, cc, rfl, hown, hb2⟩ := hz
  obtain ⟨hq1, hq2, hq3⟩ := parse_back hr1
  have hw := parse_w hr1
  have hnd := parseE_right p false false
  rw [hr1] at hnd
  have hck := hnd.2.1
  have hnt : t.nodes ≤ 10000 := hnd.2.2.2.2
  have hal := (Below.refl w2.heap.size w2).alloc (Nat.le_refl _) (.cells #[.int .i64 t.hd.kind, .int .u64 t.hd.s0, .int .u64 t.hd.s1, .int .u64 t.hd.s2, .int .u64 t.hd.s3, .slice B t.subs.length cc, .int .i64 t.hd.num, .int .i64 t.hd.min, .int .i64 t.hd.max, .bool t.hd.bare] 27)
  have hbb := hb2.trans (hal.mono hb2.size)
  have HI := hide (show T.In (w2.alloc (.cells #[.int .i64 t.hd.kind, .int .u64 t.hd.s0, .int .u64 t.hd.s1, .int .u64 t.hd.s2, .int .u64 t.hd.s3, .slice B t.subs.length cc, .int .i64 t.hd.num, .int .i64 t.hd.min, .int .i64 t.hd.max, .bool t.hd.bare] 27)) (· < (w2.alloc (.cells #[.int .i64 t.hd.kind, .int .u64 t.hd.s0, .int .u64 t.hd.s1, .int .u64 t.hd.s2, .int .u64 t.hd.s3, .slice B t.subs.length cc, .int .i64 t.hd.num, .int .i64 t.hd.min, .int .i64 t.hd.max, .bool t.hd.bare] 27)).heap.size) t B from by
   obtain ⟨bs, h1, h2, h3⟩ := hown.next hal
   exact h1.in_ fun b hb => (h3 b hb).2)
  have H3 := hide (And.intro (H1.out.trans (hbb.mono H1.out.size)) (Blk.new w2 27 #[.int .i64 t.hd.kind, .int .u64 t.hd.s0, .int .u64 t.hd.s1, .int .u64 t.hd.s2, .int .u64 t.hd.s3, .slice B t.subs.length cc, .int .i64 t.hd.num, .int .i64 t.hd.min, .int .i64 t.hd.max, .bool t.hd.bare]))
  have hee : t.ereE = if 1024 < t.txt.size then some 2 else none := by
   unfold T.ereE
   rw [hck]
   simp only
   rw [if_neg (by rw [hq1]; intro e; cases e), if_neg (by omega)]
  have HTd := hide (fun (y : World) (hy : Below w.heap.size w y) (hi : T.In y (· < y.heap.size) t B) => show Calls Tryz.prog 13 #[.agg (t.hd.cells (.slice B t.subs.length cc)).toArray] y fun e w' => e = .returned (.bool true) ∧ Below y.heap.size y w' from by
   have h := Tidy8_any t B cc y a (by omega) hi (HEn.out y hy)
   rw [hck, hq1] at h
   exact h)
  have HEr := hide (fun (y : World) (hy : Below w.heap.size w y) (hi : T.In y (· < y.heap.size) t B) => Ere8_any t B cc y a (by omega) hw hi (HEn.out y hy))
  have hes : t.ereS = if 1024 < t.txt.size then ⟨#[]⟩ else t.txt := by
   unfold T.ereS
   rw [hee]
   by_cases h : 1024 < t.txt.size
   ·rw [if_pos h, if_pos h, if_neg (by intro e; cases e)]
   ·rw [if_neg h, if_neg h, if_pos rfl]
  obtain ⟨tx, htx⟩ : ∃ tx, tx = t.txt := ⟨_, rfl⟩
  rw [← htx] at hee hes hq3
  rw [hee, hes] at HEr
  have HQ := hide hq3
  have HNt := hide hnt
  have HNd := hide hnd.2.2.2.1
  simp only [Hd.cells] at HTd HEr ⊢
  clear hown hb2 hal hbb hr1 hq1 hq2 hq3 hw hnd hck hee hes htx hnt
  go_upto_region 4 with fail
  generalize (w2.alloc (.cells #[.int .i64 t.hd.kind, .int .u64 t.hd.s0, .int .u64 t.hd.s1, .int .u64 t.hd.s2, .int .u64 t.hd.s3, .slice B t.subs.length cc, .int .i64 t.hd.num, .int .i64 t.hd.min, .int .i64 t.hd.max, .bool t.hd.bare] 27)) = w3 at *
  generalize w2.heap.size = g3 at *
  have hn0 := fun w => run_neq_nil_nil_at (P := Tryz.prog) (w := w) 32 (by kernel_rfl)
  have c3 := H3.out.2.cell
  go_wp2_with fail
  refine (HTd.out w3 H3.out.1 HI.out).mono ?_
  rintro e w4 ⟨rfl, hb4⟩
  have H4 := hide (And.intro (H3.out.1.trans (hb4.mono H3.out.1.size)) (And.intro (H3.out.2.below hb4 H3.out.2.lt) (HI.out.next hb4)))
  clear hb4 HTd c3 H3 HI
  have c3 := H4.out.2.1.cell
  go_wp2_with fail
  refine (HEr.out w4 H4.out.1 H4.out.2.2).mono ?_
  rintro e w5 ⟨rfl, hb5⟩
  have H5 := hide (And.intro (H4.out.1.trans (hb5.mono H4.out.1.size)) (And.intro (H4.out.2.1.below hb5 H4.out.2.1.lt) (H4.out.2.2.next hb5)))
  clear hb5 HEr H4 c3
  by_cases hbig : 1024 < tx.size
  ·rw [if_pos hbig, if_pos hbig]
   have hn1 := fun w => run_neq_iface_nil (P := Tryz.prog) (w := w) 32 (by kernel_rfl) 211 (.pointer (some (a 2)))
   have HN := hide (fun (y : World) (hy : Below w.heap.size w y) => show Calls Tryz.prog 12 #[errV (a 2)] y fun e w' => e = .returned (.int .i64 12) ∧ Below y.heap.size y w' from num_err y a 11 (by decide) (HEn.out y hy).errs)
   simp only [errOf, errV] at HN ⊢
   clear hn0 hbig
   go_wp2_with fail
   refine (HN.out w5 H5.out.1).mono ?_
   rintro e w6 ⟨rfl, hb6⟩
   have H6 := hide (H5.out.1.trans (hb6.mono H5.out.1.size))
   clear hb6
   go_wp2_with fail
   go_ret
   exact ⟨rfl, H6.out⟩
  ·rw [if_neg hbig, if_neg hbig]
   have HP2 := hide (HP.out tx w5 H5.out.1)
   rw [HQ.out (by omega)] at HP2
   simp only [errOf_none]
   clear hbig
   go_wp2_with fail
   refine HP2.out.mono ?_
   rintro e w6 ⟨B2, c2, rfl, hown, hb6⟩
   have hal := (Below.refl w6.heap.size w6).alloc (Nat.le_refl _) (.cells #[.int .i64 t.hd.kind, .int .u64 t.hd.s0, .int .u64 t.hd.s1, .int .u64 t.hd.s2, .int .u64 t.hd.s3, .slice B2 t.subs.length c2, .int .i64 t.hd.num, .int .i64 t.hd.min, .int .i64 t.hd.max, .bool t.hd.bare] 27)
   have hbb := hb6.trans (hal.mono hb6.size)
   have HI2 := hide (show T.In (w6.alloc (.cells #[.int .i64 t.hd.kind, .int .u64 t.hd.s0, .int .u64 t.hd.s1, .int .u64 t.hd.s2, .int .u64 t.hd.s3, .slice B2 t.subs.length c2, .int .i64 t.hd.num, .int .i64 t.hd.min, .int .i64 t.hd.max, .bool t.hd.bare] 27)) (· < (w6.alloc (.cells #[.int .i64 t.hd.kind, .int .u64 t.hd.s0, .int .u64 t.hd.s1, .int .u64 t.hd.s2, .int .u64 t.hd.s3, .slice B2 t.subs.length c2, .int .i64 t.hd.num, .int .i64 t.hd.min, .int .i64 t.hd.max, .bool t.hd.bare] 27)).heap.size) t B2 from by
    obtain ⟨bs, h1, h2, h3⟩ := hown.next hal
    exact h1.in_ fun b hb => (h3 b hb).2)
   have H7 := hide (And.intro (H5.out.1.trans (hbb.mono H5.out.1.size)) (And.intro (H5.out.2.1.below hbb H5.out.2.1.lt) (And.intro (H5.out.2.2.next hbb) (Blk.new w6 27 #[.int .i64 t.hd.kind, .int .u64 t.hd.s0, .int .u64 t.hd.s1, .int .u64 t.hd.s2, .int .u64 t.hd.s3, .slice B2 t.subs.length c2, .int .i64 t.hd.num, .int .i64 t.hd.min, .int .i64 t.hd.max, .bool t.hd.bare]))))
   clear hown hb6 hal hbb HP2 H5
   simp only [Hd.cells]
   go_upto_region 12 with fail
   generalize (w6.alloc (.cells #[.int .i64 t.hd.kind, .int .u64 t.hd.s0, .int .u64 t.hd.s1, .int .u64 t.hd.s2, .int .u64 t.hd.s3, .slice B2 t.subs.length c2, .int .i64 t.hd.num, .int .i64 t.hd.min, .int .i64 t.hd.max, .bool t.hd.bare] 27)) = w7 at *
   generalize w6.heap.size = g7 at *
   have HSm := hide (show Calls Tryz.prog 22 #[.agg #[.int .i64 t.hd.kind, .int .u64 t.hd.s0, .int .u64 t.hd.s1, .int .u64 t.hd.s2, .int .u64 t.hd.s3, .slice B2 t.subs.length c2, .int .i64 t.hd.num, .int .i64 t.hd.min, .int .i64 t.hd.max, .bool t.hd.bare], .agg #[.int .i64 t.hd.kind, .int .u64 t.hd.s0, .int .u64 t.hd.s1, .int .u64 t.hd.s2, .int .u64 t.hd.s3, .slice B t.subs.length cc, .int .i64 t.hd.num, .int .i64 t.hd.min, .int .i64 t.hd.max, .bool t.hd.bare]] w7 fun e w' => e = .returned (.bool true) ∧ Below w7.heap.size w7 w' from by
    have h1 := tsame_any 10000 t t B2 B c2 cc w7 HNt.out (by decide) HI2.out H7.out.2.2.1
    rw [T.same_self8] at h1
    exact h1)
   have hn2 := fun w => run_eql_nil_nil_at (P := Tryz.prog) (w := w) 32 (by kernel_rfl)
   have c3 := H7.out.2.1.cell
   have c7 := H7.out.2.2.2.cell
   clear hn0
   go_wp2_with fail
   refine HSm.out.mono ?_
   rintro e w8 ⟨rfl, hb8⟩
   have H8 := hide (H7.out.1.trans (hb8.mono H7.out.1.size))
   clear hb8
   go_wp2_with fail
   go_ret
   exact ⟨rfl, H8.out⟩
end Go.Proofs.YtpkcklpjbeginaaGreatDoor

/-! ## SpellReadsProof -/
namespace Go.Proofs.YtpkcklpjbeginaaGreatDoor
open Go.ChangeShapes Go.WideShapes Go.ChangeAt Go.RowKit

theorem own : ownKnob Tryz.prog.godebug = none := by kernel_rfl
theorem laidOut : laidOutB Tryz.prog = true := by kernel_rfl
theorem star : ("*" ++ "errors.errorString" : String) = "*errors.errorString" := by decide
theorem rowE (u : TypeId) (h : Tryz.prog.typeName? 3 u = some "*errors.errorString") : u = 211 :=
 typeName_ptr_named (nm := "errors.errorString") (by rw [star]; kernel_rfl) (by kernel_rfl) (by decide) u (by rw [star]; exact h)
theorem glob : ((List.range 21).all fun g => (Tryz.prog.globals[g]?).map (·.type) == some 32) = true := by kernel_rfl
theorem tab8_of_met {l : List (String × DataW Unit)} {W : World} (h : laidMet Tryz.prog l W)
  (hm : ("internal/strconv.uint64pow10", (Lib.tabData .u64 Lib.pow10Tab : DataW Unit)) ∈ l) : Tab8 W := by
 obtain ⟨g, t, cs, fuel, p, h1, h2, h3, h4⟩ := Lib.laidMet.reads h hm
 obtain rfl : g = 24 := Option.some.inj (h1.symm.trans (show Tryz.prog.globalNamed "internal/strconv.uint64pow10" = some 24 by kernel_rfl))
 obtain rfl : t = 203 := Option.some.inj (h2.symm.trans (show (Tryz.prog.globals[24]?).map (·.type) = some 203 by kernel_rfl))
 unfold Tab8 Lib.TabIs
 rw [h3, ← Lib.cells_of_tab Tryz.underlying203 Tryz.underlying22 (by kernel_rfl) (by kernel_rfl) h4]

theorem env_of_laid {W : World} (h : laidMetH Tryz.prog Rows.spellReadsRow.laid W) : ∃ a, E8 W a := by
 rw [Go.MakeChecks.laidMetH_plain Tryz.prog Rows.spellReadsRow.laid W (by kernel_rfl)] at h
 have ht := tab_of_met h (by simp only [Rows.spellReadsRow, Rows.laid_math_bits_deBruijn64tab]; exact List.mem_of_getElem? (i := 1) rfl)
 have ht8 := tab8_of_met h (by simp only [Rows.spellReadsRow, Rows.laid_internal_strconv_uint64pow10]; exact List.mem_of_getElem? (i := 2) rfl)
 obtain ⟨a, ha⟩ := errs_of_some (fun x => !(x.1 == "math/bits.deBruijn64tab" || x.1 == "math/bits.deBruijn32tab" || x.1 == "internal/strconv.uint64pow10")) h (by
  intro x hx hpr
  have hx' := hx
  simp only [Rows.spellReadsRow, List.mem_cons, List.not_mem_nil, or_false] at hx'
  rcases hx' with e | e | e | e | e | e | e | e | e | e | e | e | e | e | e | e | e | e | e | e | e | e | e | e <;> subst e <;> first | exact ⟨_, rfl⟩ | exact absurd hpr (by decide)) rowE (by kernel_rfl) (fun g hg => by
   have := List.all_eq_true.1 glob g (by simpa using hg)
   simpa using this)
 exact ⟨a, ha, ht, ht8⟩

theorem door_met (os : Os) (args : Array Value) : laidMetH Tryz.prog Rows.spellReadsRow.laid ((World.doorLaid Tryz.prog 420 os).forCall (fun _ _ => 0) ⟨#[], args, []⟩).memory :=
 laidMetH_of_parts3 (fuel := 8) (laidMet_of_run' 8 (by kernel_rfl) (by kernel_rfl)) (by kernel_rfl) (by kernel_rfl)

set_option maxRecDepth 100000 in
theorem contract (H : Type) (enc : TypeId × Value → H) (W : World) (base : Nat) (args : Array Value) (ds gs : List (DataW H)) (before : List MemPlace)
  (hval0 : ∀ (j : Nat) t v, Tryz.f5.params[j]? = some t → args[j]? = some v → Value.okWide Tryz.prog W .any base t v)
  (hW : DataW.Whole enc Tryz.prog Tryz.f5.params.toList Rows.spellReadsSpec.vars false W args.toList ds gs before) (hL : laidMetH Tryz.prog Rows.spellReadsRow.laid W) (hsh : W.ShapedOpen Tryz.prog) :
  Calls Tryz.prog 5 args W fun e W' => ∃ v, e = .returned v ∧ Rows.spellReadsSpec.post enc Tryz.prog Tryz.f5 false true false false W args v W' := by
 have hval : ∀ (j : Nat) t v, Tryz.f5.params[j]? = some t → args[j]? = some v → Value.okWide Tryz.prog W .any base t v := hval0
 have hW' := hW
 obtain ⟨p, q, hA0, hV, rfl, hfz, hnd⟩ := hW
 have hA : DataW.TrodAll enc Tryz.prog W 0 (fun _ => true) true Tryz.f5.params.toList args.toList ds p := hA0
 rw [Tryz.params5] at hA hval
 obtain ⟨v0, vs0, d0, ds0, p0, q0, e0, rfl, rfl, h0, r0⟩ := trodAll_cons hA
 obtain ⟨rfl, rfl, rfl⟩ := trodAll_nil r0
 obtain rfl : args = #[v0] := by cases args; simp_all
 obtain ⟨rfl, rfl⟩ := trodVars_none hV
 have k0 := h0
 have lt0 : ∀ x ∈ p0, x.block < W.heap.size := by obtain ⟨m, hm⟩ := k0; exact DataW.trod_lt m _ _ _ hm
 obtain ⟨s0, e0, f0, hs0⟩ : ∃ s : ByteArray, v0 = .string s ∧ d0 = .lit (.string s.data.toList) ∧ s.size ≤ maxLen := by
  obtain ⟨s, e, f, _, hw⟩ := Go.ChangeMaps.open_string Tryz.underlying9 (hval 0 9 v0 rfl rfl) h0
  exact ⟨s, e, f, hw⟩
 subst e0
 obtain ⟨a, hE⟩ := env_of_laid hL
 obtain ⟨m, hm⟩ := maxLen_int hsh
 clear hA0 hval0 hval hA
 refine (spellReads_law s0 a m W ⟨hE.errs, hm⟩ hE).mono fun e W' ⟨he, bel⟩ => ?_
 subst he
 exact ⟨_, rfl, _, _, _, [], _, [], hW', trodAll_mk1 (shut_bool Tryz.underlying4 _), (trodAll_cons_mk (Below.trod laidOut (by kernel_rfl) (of_decide_eq_true (by kernel_rfl)) k0 bel lt0) trodAll_mk0), rfl, bel.frame _, fun h => by cases h⟩

theorem reads (os : Os) {H : Type} (enc : TypeId × Value → H) : ∃ places, DataW.whole enc Tryz.prog ((World.doorLaid Tryz.prog 420 os).forCall (fun _ _ => 0) ⟨#[], #[.string ⟨#[]⟩], []⟩).memory Tryz.f5.params.toList Rows.spellReadsSpec.vars false #[.string ⟨#[]⟩].toList 8 = some ([.lit (.string [])], [], places) :=
 ⟨[], by kernel_rfl⟩

theorem witness (os : Os) (H : Type) (enc : TypeId × Value → H) : ∃ (w : World) (tape : Tape) (i : Input), w.os = os ∧ (w.forCall tape i).Shaped Tryz.checked.prog ∧ i.vars = [] ∧ Input.okWide Tryz.checked.prog (w.forCall tape i) .any w.heap.size 5 i ∧
   ((OpenSpec.ofChange Rows.spellReadsSpec).preRow enc Tryz.checked.prog Tryz.f5 Rows.spellReadsRow.domain false Rows.spellReadsRow.laid (w.forCall tape i).memory i.args ∧ ({} : Assume).holds Tryz.checked.prog (lone (Frame.enter Tryz.checked.prog 5 i.args .normal) [] (w.forCall tape i))) := by
 obtain ⟨places, hx⟩ := reads os enc
 have hok : Input.okWideB Tryz.checked.prog ((World.doorLaid Tryz.prog 420 os).forCall (fun _ _ => 0) ⟨#[], #[.string ⟨#[]⟩], []⟩) 5 ⟨#[], #[.string ⟨#[]⟩], []⟩ = true := by kernel_rfl
 refine ⟨World.doorLaid Tryz.prog 420 os, fun _ _ => 0, ⟨#[], #[.string ⟨#[]⟩], []⟩, rfl, World.shaped_of_RefB (by kernel_rfl) (by kernel_rfl), (Input.okWide_of_okWideB (base := 0) hok).1, (Input.okWide_of_okWideB hok).2, OpenSpec.preRow_of_cond 8 hx (by kernel_rfl) (fun k hk => by cases hk) (by kernel_rfl) (door_met os _), ?_⟩
 simp only [Assume.holds]
 exact ⟨by simp, by simp, fun _ => Modest.zero, by simp, by simp⟩

set_option maxRecDepth 100000 in
theorem lifted (os : Os) (started : os.Started) (H : Type) (enc : TypeId × Value → H) (F : Stop.Interp) :
  ReturnsInHanded {} Tryz.checked os 5 .any ((OpenSpec.ofChange Rows.spellReadsSpec).preRow enc Tryz.prog Tryz.f5 Rows.spellReadsRow.domain false Rows.spellReadsRow.laid) (((OpenSpec.ofChange Rows.spellReadsSpec).at F).post enc Tryz.prog Tryz.f5 false true false false) := by
 refine returnsInHanded_of_row (C := Tryz.checked) (s := (OpenSpec.ofChange Rows.spellReadsSpec)) own started (by kernel_rfl) Tryz.func5 (witness os H enc) ?_
 intro W base args ds gs before hval hW _ hcond _ hL hsh _
 exact contract H enc W base args ds gs before hval hW hL hsh

theorem said : Rows.SpellReadsSaid :=
 OpenClaim.holds_of_cond 5 Tryz.f5 rfl rfl rfl rfl rfl rfl rfl ⟨rfl, rfl, rfl, rfl, rfl⟩ rfl rfl rfl rfl rfl (by kernel_rfl) Tryz.func5 (by kernel_rfl)
  (of_decide_eq_true (by kernel_rfl)) (by unfold Func.isWrapper; first | (rw [if_pos (by decide +kernel)]; kernel_rfl) | (rw [if_neg (by decide +kernel)]; exact ⟨rfl, rfl⟩))
  (fun os started H enc _ F => by rw [OpenClaim.pre_eq_preRow]; exact lifted os started H enc F)

theorem plain (f : FuncId) (fn : Func) (hf : Tryz.pinned.checked.prog.funcNamed "trawl/trawllaw08.SpellReads" = some f) (hfn : Tryz.pinned.checked.prog.funcs[f]? = some fn) :
  true = Tryz.pinned.checked.prog.looks [] ∧ ∀ (j : Nat) t, fn.params[j]? = some t → Tryz.pinned.checked.prog.wantsStandIn t = false := by
 obtain rfl : f = 5 := Option.some.inj ((show Tryz.prog.funcNamed "trawl/trawllaw08.SpellReads" = some 5 by kernel_rfl).symm.trans hf) |>.symm
 obtain rfl : fn = Tryz.f5 := (Option.some.inj (Tryz.func5.symm.trans hfn)).symm
 refine ⟨by kernel_rfl, fun j t ht => ?_⟩
 rw [Tryz.params5] at ht
 have hm := Array.mem_of_getElem? ht
 simp only [List.mem_toArray, List.mem_cons, List.not_mem_nil, or_false] at hm
 subst hm
 ·exact (show Tryz.prog.wantsStandIn 9 = false by kernel_rfl)

theorem spellReads_holds : Rows.SpellReadsCardSaid :=
 Claim7.holds_tied_plain_at .later [] _ _ _ _ said (fun _ h => by cases h) (by kernel_rfl) (fun _ h => by cases h) spellReads_row_tie rfl ⟨rfl, rfl⟩ (by kernel_rfl) rfl plain (by kernel_rfl)
#print axioms spellReads_holds
end Go.Proofs.YtpkcklpjbeginaaGreatDoor
