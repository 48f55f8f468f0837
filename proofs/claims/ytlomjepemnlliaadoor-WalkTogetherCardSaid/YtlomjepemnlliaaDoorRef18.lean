/- Ref18: trawlref18.Asked, led, Step, Ended: the document's walk over positions. (Printed by gen_ref18.py.)
RefStep18: trawlref18.Step, Ended. (Printed by gen_refstep18.py.)
RefEnds18: trawlref18.Ended, Ends. (Printed by gen_refends18.py.)
RefRun18: trawlref18.Ends. (Printed by gen_refrun18.py.) -/
import Derived.Test.YtlomjepemnlliaaDoorWalk18
set_option linter.unusedSimpArgs false
set_option linter.unusedVariables false
set_option linter.unnecessarySimpa false

/-! ## Ref18 -/
namespace Go.Proofs.YtlomjepemnlliaaDoor
open Go.RowKit

/-- The number that the document gives an error. -/
def walkNum : Option Nat → Int
  | none => 0
  | some g => (g : Int) + 1

/-- What the document's Asked answers. -/
def RefAsked18 (p : Po) (x : Sc) (q : Int) (w : World) (e : Ending) (w' : World) : Prop := ∃ g, Asked18 p x q g ∧ e = .returned (.int .i64 (walkNum g)) ∧ Below w.heap.size w w'

set_option maxRecDepth 100000 in
set_option maxHeartbeats 2000000 in
theorem refAsked18_any (p : Po) (pa : PoA) (x : Sc) (cf ef q : Int) (w : World) (hwf : p.wf) (hin : PoIn (· < w.heap.size) w p pa) (hq : IsI64 q) (hx : x.text.size ≤ 140737488355328) :
    Calls Tryd.prog 16 #[.agg (p.cells pa).toArray, .agg #[.string x.text, .int .i64 cf, .int .i64 ef, .bool false], .int .i64 q] w (RefAsked18 p x q w) := by
  have HF := hide (fun y (hy : Below w.heap.size w y) => posForm_any p pa y hwf (hin.next hy))
  obtain ⟨q1, q2⟩ := hq
  have hxl : x.len = x.text.size := rfl
  clear hwf hin
  simp only [Po.cells] at HF ⊢
  have hbs := Blk.new (w.alloc (.cells #[.slice pa.s p.sets.length pa.cs, .int .i64 p.null, .slice pa.f p.first.length pa.cf, .slice pa.l p.last.length pa.cl, .slice pa.w p.follow.length pa.cw] 26)) 34 #[.string x.text, .int .i64 cf, .int .i64 ef, .bool false]
  rw [World.size_alloc] at hbs
  have hbel := ((Below.refl w.heap.size w).alloc (Nat.le_refl _) (.cells #[.slice pa.s p.sets.length pa.cs, .int .i64 p.null, .slice pa.f p.first.length pa.cf, .slice pa.l p.last.length pa.cl, .slice pa.w p.follow.length pa.cw] 26)).alloc (by simp) (.cells #[.string x.text, .int .i64 cf, .int .i64 ef, .bool false] 34)
  go_enter Tryd.func16, Tryd.ntmps16
  go_wp2_with fail
  refine (HF.out _ hbel).mono ?_
  rintro e w1 ⟨b, rfl, hb, hb1⟩
  have cs := (hbs.nxt hb1).cell
  have HB := hide (And.intro (hbel.trans (hb1.mono hbel.size)) hb)
  clear hb hb1 hbel hbs HF
  cases b with
  | false =>
    go_wp2_with fail
    go_ret
    exact ⟨some 12, .inl ⟨rfl, fun h => by have := HB.out.2.2 h; cases this⟩, rfl, HB.out.1⟩
  | true =>
  have HOK := hide (HB.out.2.1 rfl)
  by_cases h0 : q < 0
  · have d0 : decide (q < 0) = true := decide_eq_true h0
    go_wp2_with fail
    go_ret
    exact ⟨some 14, .inr (.inl ⟨rfl, HOK.out, .inl h0⟩), rfl, HB.out.1⟩
  have d0 : decide (q < 0) = false := decide_eq_false h0
  by_cases h1 : (x.text.size : Int) < q
  · have d1 : decide ((x.text.size : Int) < q) = true := decide_eq_true h1
    go_wp2_with fail
    go_ret
    exact ⟨some 14, .inr (.inl ⟨rfl, HOK.out, .inr h1⟩), rfl, HB.out.1⟩
  have d1 : decide ((x.text.size : Int) < q) = false := decide_eq_false h1
  go_wp2_with fail
  go_ret
  exact ⟨none, .inr (.inr ⟨rfl, HOK.out, by omega, by rw [hxl]; omega⟩), rfl, HB.out.1⟩

/-- A front with what edges lead to. -/
structure RefLed (p : Po) (m b n gf B0 : Nat) (F : Nat → Bool) (r : List Ed) (y y' : World) : Prop where
  row : BoRow y' gf n (fun q => F q || leads p m b r q)
  below : Below B0 y y'
  same : Same (fun b => b < y.heap.size ∧ b ≠ gf) y y'

set_option maxRecDepth 100000 in
set_option maxHeartbeats 4000000 in
theorem refLed_any (p : Po) (pa : PoA) (x : Sc) (cf ef : Int) (n gf B0 : Nat) (F : Nat → Bool) (r : List Ed) (B : Option Addr) (c i : Nat) (y : World) (hr : RefSc x cf ef) (hi : i < x.text.size) (hn : p.sets.length = n) (hn6 : n < 1000000) (hwf : ∀ s ∈ p.sets, Se.wf s)
    (hsets : SeIn (fun b => b < y.heap.size ∧ b ≠ gf) y p.sets pa.s) (hok : EdOk n r) (hrl : r.length ≤ 9223372036854775807) (hin : EdIn (fun b => b < y.heap.size ∧ b ≠ gf) y r B) (hrow : BoRow y gf n F) (hB0 : B0 ≤ gf) :
    Calls Tryd.prog 86 #[.agg (p.cells pa).toArray, .agg #[.string x.text, .int .i64 cf, .int .i64 ef, .bool false], .slice (some ⟨gf, 0, none⟩) n n, .slice B r.length c, .int .i64 i] y fun e y' => e = .returned (.slice (some ⟨gf, 0, none⟩) n n) ∧ RefLed p (x.mark i) (byteB x i) n gf B0 F r y y' := by
  have hm4 : x.mark i < 4 := by rw [hr.marks i (by omega)]; exact markOf_lt _ _ _ _ _ _
  have hb256 : byteB x i < 256 := UInt8.toNat_lt _
  have HMk := hide (fun y => refMarks_any hr i (by omega) y)
  have HBy := hide (fun y => Byte_ref x.text cf ef i (by omega) hr.small y)
  rw [if_pos hi, show byteAt x.text i = byteB x i from rfl] at HBy
  have HIn := hide hin
  have HS := hide hsets
  have HOk := hide (And.intro hok hwf)
  have HR := hide hrow
  have hgl := hrow.lt
  generalize x.mark i = mk at *
  generalize byteB x i = bt at *
  have HNN := hide hn
  clear hin hsets hok hwf hrow hr hn
  simp only [Po.cells] at ⊢
  have hbp := (Blk.new y 26 #[.slice pa.s p.sets.length pa.cs, .int .i64 p.null, .slice pa.f p.first.length pa.cf, .slice pa.l p.last.length pa.cl, .slice pa.w p.follow.length pa.cw]).alloc (.cells #[.string x.text, .int .i64 cf, .int .i64 ef, .bool false] 34)
  have hbs := Blk.new (y.alloc (.cells #[.slice pa.s p.sets.length pa.cs, .int .i64 p.null, .slice pa.f p.first.length pa.cf, .slice pa.l p.last.length pa.cl, .slice pa.w p.follow.length pa.cw] 26)) 34 #[.string x.text, .int .i64 cf, .int .i64 ef, .bool false]
  rw [World.size_alloc] at hbs
  have hbel := ((Below.refl y.heap.size y).alloc (Nat.le_refl _) (.cells #[.slice pa.s p.sets.length pa.cs, .int .i64 p.null, .slice pa.f p.first.length pa.cf, .slice pa.l p.last.length pa.cl, .slice pa.w p.follow.length pa.cw] 26)).alloc (by simp) (.cells #[.string x.text, .int .i64 cf, .int .i64 ef, .bool false] 34)
  go_enter Tryd.func86, Tryd.ntmps86
  go_wp2_with fail
  refine (HMk.out _).mono ?_
  rintro e w1 ⟨rfl, hb⟩
  replace hbp := hbp.nxt hb
  replace hbs := hbs.nxt hb
  replace hbel := hbel.trans (hb.mono hbel.size)
  have cs := hbs.cell
  clear hb HMk
  go_wp2_with fail
  refine (HBy.out _).mono ?_
  rintro e w2 ⟨rfl, hb⟩
  replace hbp := hbp.nxt hb
  replace hbel := hbel.trans (hb.mono hbel.size)
  clear hb HBy cs hbs
  have HB := hide (And.intro hbel hbp)
  have hz2 := hbel.size
  have hpl := hbp.lt
  clear hbel hbp
  go_wp2_with fail
  go_loopw [13] (fun kv wr => ∃ k : Nat, kv = .int .i64 k ∧ k ≤ r.length ∧ BoRow wr gf n (fun q => F q || leads p mk bt (r.take k) q) ∧ Below B0 y wr ∧ Same (fun b => b < y.heap.size ∧ b ≠ gf) y wr ∧ Blk wr y.heap.size 26 #[.slice pa.s p.sets.length pa.cs, .int .i64 p.null, .slice pa.f p.first.length pa.cf, .slice pa.l p.last.length pa.cl, .slice pa.w p.follow.length pa.cw]) (fun kv _ => r.length - (intOf kv).toNat)
  case atStart => exact ⟨0, rfl, by omega, (HR.out.same (same_of_below HB.out.1) hgl).congr fun q _ => by simp [leads], HB.out.1.mono (by omega), (same_of_below HB.out.1).mono fun b h => h.1, HB.out.2⟩
  case round =>
    clear HB
    obtain ⟨k, rfl, hk, hrow, hbel, hsam, hbp⟩ := hrel
    by_cases hlt : k < r.length
    case neg =>
      have g1 : decide ((k : Int) < (r.length : Int)) = false := decide_eq_false (by omega)
      rw [List.take_of_length_le (by omega)] at hrow
      have HH := hide (RefLed.mk hrow hbel hsam)
      clear hrow hbel hsam hbp
      go_wp2_with fail
      go_ret
      exact ⟨rfl, HH.out⟩
    have g1 : decide ((k : Int) < (r.length : Int)) = true := decide_eq_true (by omega)
    have he := List.getElem?_eq_getElem hlt
    have htk : r.take (k + 1) = r.take k ++ [r[k]] := by rw [List.take_add_one, he]; rfl
    generalize r[k] = e at *
    obtain ⟨be, oe, rfl, hbe, c0, c1⟩ := (HIn.out.same hsam (fun _ h => h)).cell he
    obtain ⟨v0, v1, v2, v3, _⟩ := HOk.out.1.at_ he
    obtain ⟨e1, e2⟩ := e
    simp only at c0 c1 v0 v1 v2 v3
    obtain ⟨q, hq⟩ : ∃ q : Nat, e1 = q := ⟨e1.toNat, by omega⟩
    obtain ⟨v, hv⟩ : ∃ v : Nat, e2 = v := ⟨e2.toNat, by omega⟩
    subst hq hv
    have hqn : q < n := by omega
    have hv16 : v < 16 := by omega
    have hqs : q < p.sets.length := by have := HNN.out; omega
    have hs := List.getElem?_eq_getElem hqs
    have hswf := HOk.out.2 _ (List.getElem_mem hqs)
    have hsh : setHas p q bt = Hd.has ⟨0, p.sets[q].1, p.sets[q].2.1, p.sets[q].2.2.1, p.sets[q].2.2.2, 0, 0, 0, false⟩ bt := by unfold setHas; rw [hs]
    have hmem : ∀ z, (F z || leads p mk bt (r.take (k + 1)) z) = ((F z || leads p mk bt (r.take k) z) || (decide (z = q) && (v.testBit mk && setHas p q bt))) := fun z => by
      rw [htk, leads_snoc, ← Bool.or_assoc]
      congr 1
      by_cases hz : z = q
      · subst hz; simp
      · have : ((q : Int) == (z : Int)) = false := beq_false_of_ne (by omega)
        simp [hz, this]
    generalize p.sets[q] = s at *
    obtain ⟨s0, s1, s2, s3⟩ := s
    simp only at hsh hswf
    obtain ⟨bs, os, es, hbs, z0, z1, z2, z3⟩ := (HS.out.same hsam (fun _ h => h)).cell hs
    have hwr := hbel.size
    have hbK : ∀ w' : Later wr, Same (· < wr.heap.size) wr w'.val := fun w' => same_of_below w'.2
    have q0 := fun (w' : Later wr) => (hbp.below w'.2 hbp.lt).cell
    have y0 := fun (w' : Later wr) => ((hbK w').cell (a := ⟨bs, os + q * 4, none⟩) (by simp only; omega)).trans z0
    have y1 := fun (w' : Later wr) => ((hbK w').cell (a := ⟨bs, os + q * 4 + 1, none⟩) (by simp only; omega)).trans z1
    have y2 := fun (w' : Later wr) => ((hbK w').cell (a := ⟨bs, os + q * 4 + 2, none⟩) (by simp only; omega)).trans z2
    have y3 := fun (w' : Later wr) => ((hbK w').cell (a := ⟨bs, os + q * 4 + 3, none⟩) (by simp only; omega)).trans z3
    have x0 := fun (w' : Later wr) => ((hbK w').cell (a := ⟨be, oe + k * 2, none⟩) (by simp only; omega)).trans c0
    have x1 := fun (w' : Later wr) => ((hbK w').cell (a := ⟨be, oe + k * 2 + 1, none⟩) (by simp only; omega)).trans c1
    rw [es] at q0
    have hopen := hide (fun (w' : Later wr) => (refOpen_any v mk hv16 hm4 w'.val).mono fun e w2 h => (⟨h.1, h.2 ▸ Below.refl _ _⟩ : e = .returned (.bool (v.testBit mk)) ∧ Below w'.val.heap.size w'.val w2))
    have hhas := hide (fun (w' : Later wr) => refHas_any s0 s1 s2 s3 bt hb256 w'.val hswf.1 hswf.2.1 hswf.2.2.1 hswf.2.2.2)
    rw [← hsh] at hhas
    obtain ⟨opn, hopn⟩ : ∃ t, t = v.testBit mk := ⟨_, rfl⟩
    obtain ⟨has, hhs⟩ : ∃ t, t = setHas p q bt := ⟨_, rfl⟩
    have hcv : (IntKind.u8.wrap (bt : Int)) = (bt : Int) := by rw [IntKind.wrap_u8]; omega
    rw [← hopn] at hopen
    rw [← hhs] at hhas
    have HQ := hide (And.intro hopn (And.intro hhs hmem))
    have HL := hide (And.intro hrow (And.intro hbel (And.intro hsam hbp)))
    clear hopn hhs hmem htk he hrow hbel hsam hbp hbK z0 z1 z2 z3 c0 c1 hs hsh hswf
    cases opn with
    | false =>
      go_upto_region 6 with fail
      refine wp_region_later (by kernel_rfl) (by kernel_rfl) ?_
      repeat (go_big_quiet_step (first | exact calls_later (hopen.out _) | exact calls_later (hhas.out _)))
      refine wpQuiet_nil ?_
      rintro w' ⟨w3, rfl⟩
      clear q0 y0 y1 y2 y3 x0 x1
      go_wp2_with fail
      go_roundw
      case rel =>
        refine ⟨k + 1, by go_num, hlt, (HL.out.1.same (same_of_below w3.2) HL.out.1.lt).congr fun z _ => ?_, HL.out.2.1.trans (w3.2.mono (by omega)), HL.out.2.2.1.trans ((same_of_below w3.2).mono fun b h => by have := h.1; omega), HL.out.2.2.2.below w3.2 HL.out.2.2.2.lt⟩
        rw [HQ.out.2.2 z, ← HQ.out.1, ← HQ.out.2.1]
        simp
      case measure => simp [intOf]; omega
    | true =>
    cases has with
    | false =>
      go_upto_region 6 with fail
      refine wp_region_later (by kernel_rfl) (by kernel_rfl) ?_
      repeat (go_big_quiet_step (first | exact calls_later (hopen.out _) | exact calls_later (hhas.out _)))
      refine wpQuiet_nil ?_
      rintro w' ⟨w3, rfl⟩
      clear q0 y0 y1 y2 y3 x0 x1
      go_wp2_with fail
      go_roundw
      case rel =>
        refine ⟨k + 1, by go_num, hlt, (HL.out.1.same (same_of_below w3.2) HL.out.1.lt).congr fun z _ => ?_, HL.out.2.1.trans (w3.2.mono (by omega)), HL.out.2.2.1.trans ((same_of_below w3.2).mono fun b h => by have := h.1; omega), HL.out.2.2.2.below w3.2 HL.out.2.2.2.lt⟩
        rw [HQ.out.2.2 z, ← HQ.out.1, ← HQ.out.2.1]
        simp
      case measure => simp [intOf]; omega
    | true =>
      go_upto_region 6 with fail
      refine wp_region_later (by kernel_rfl) (by kernel_rfl) ?_
      repeat (go_big_quiet_step (first | exact calls_later (hopen.out _) | exact calls_later (hhas.out _)))
      refine wpQuiet_nil ?_
      rintro w' ⟨w3, rfl⟩
      have hrw := HL.out.1.same (same_of_below w3.2) HL.out.1.lt
      have cw := hrw.cell q hqn
      have hfz := hrw.frozen
      replace x0 := x0 w3
      have HRW := hide hrw
      clear hrw q0 y0 y1 y2 y3 x1
      go_wp2_with fail
      go_roundw
      case rel =>
        refine ⟨k + 1, by go_num, hlt, (HRW.out.set q true hqn).congr fun z _ => ?_, (HL.out.2.1.trans (w3.2.mono (by omega))).setCell hB0 _, (HL.out.2.2.1.trans ((same_of_below w3.2).mono fun b h => by have := h.1; omega)).set (fun h => h.2 rfl) _, (HL.out.2.2.2.below w3.2 HL.out.2.2.2.lt).far (by simp only; omega) _⟩
        rw [HQ.out.2.2 z, ← HQ.out.1, ← HQ.out.2.1]
        by_cases h : z = q
        · simp [h]
        · simp [h]
      case measure => simp [intOf]; omega
end Go.Proofs.YtlomjepemnlliaaDoor

/-! ## RefStep18 -/
namespace Go.Proofs.YtlomjepemnlliaaDoor
open Go.RowKit

/-- The front behind a byte, as far as the first k positions lead. -/
def stepK (p : Po) (m b : Nat) (starts : Bool) (F : Nat → Bool) (k q : Nat) : Bool := (starts && leads p m b p.first q) || (List.range k).any fun j => F j && leads p m b (p.follow.getD j []) q
theorem stepK_succ (p : Po) (m b : Nat) (starts : Bool) (F : Nat → Bool) (k q : Nat) : stepK p m b starts F (k + 1) q = (stepK p m b starts F k q || (F k && leads p m b (p.follow.getD k []) q)) := by
  unfold stepK
  rw [List.range_succ, List.any_append]
  simp [Bool.or_assoc]

/-- A new front was returned. -/
def RefStepped (n : Nat) (F : Nat → Bool) (y : World) (e : Ending) (y' : World) : Prop := ∃ gn, e = .returned (.slice (some ⟨gn, 0, none⟩) n n) ∧ BoRow y' gn n F ∧ y.heap.size ≤ gn ∧ Below y.heap.size y y'

set_option maxRecDepth 100000 in
set_option maxHeartbeats 4000000 in
theorem refStep_any (p : Po) (pa : PoA) (x : Sc) (cf ef : Int) (n gf : Nat) (F : Nat → Bool) (i : Nat) (starts : Bool) (y : World) (hr : RefSc x cf ef) (hi : i < x.text.size) (hn : p.sets.length = n) (hn6 : n < 1000000) (hwf : p.wf) (hok : p.Ok) (hin : PoIn (· < y.heap.size) y p pa) (hrow : BoRow y gf n F) :
    Calls Tryd.prog 50 #[.agg (p.cells pa).toArray, .agg #[.string x.text, .int .i64 cf, .int .i64 ef, .bool false], .slice (some ⟨gf, 0, none⟩) n n, .int .i64 i, .bool starts] y (RefStepped n (stepB p (x.mark i) (byteB x i) starts F) y) := by
  have HMK := hide (fun W => run_bo (ts := 92) Tryd.underlying92 n (by omega) W)
  have HL := hide (fun (gn : Nat) (G : Nat → Bool) (r : List Ed) (B : Option Addr) (c : Nat) (z : World) (hz : Below y.heap.size y z) (hg : y.heap.size ≤ gn) (h1 : EdOk n r) (h2 : r.length ≤ 9223372036854775807) (h3 : EdIn (· < y.heap.size) y r B) (h4 : BoRow z gn n G) =>
    refLed_any p pa x cf ef n gn y.heap.size G r B c i z hr hi hn hn6 hwf.sets ((hin.sets.same (ok' := (· < y.heap.size)) (same_of_below hz) (fun b h => h)).same (Same.refl _ _) (fun b h => ⟨by have := hz.size; omega, by omega⟩)) h1 h2 ((h3.same (ok' := (· < y.heap.size)) (same_of_below hz) (fun b h => h)).same (Same.refl _ _) (fun b h => ⟨by have := hz.size; omega, by omega⟩)) h4 hg)
  have HOK := hide (And.intro hwf hok)
  have HIN := hide hin
  have HR := hide hrow
  have hfn : p.follow.length = n := hok.len.trans hn
  have HNN := hide (And.intro hn hfn)
  have hmk := HMK.out ((y.alloc (.cells #[.slice pa.s p.sets.length pa.cs, .int .i64 p.null, .slice pa.f p.first.length pa.cf, .slice pa.l p.last.length pa.cl, .slice pa.w p.follow.length pa.cw] 26)).alloc (.cells #[.string x.text, .int .i64 cf, .int .i64 ef, .bool false] 34))
  rw [← hn] at hmk
  generalize x.mark i = mk at *
  generalize byteB x i = bt at *
  clear hwf hok hin hrow hr hfn HMK
  simp only [Po.cells] at HL ⊢
  have hbp := (Blk.new y 26 #[.slice pa.s p.sets.length pa.cs, .int .i64 p.null, .slice pa.f p.first.length pa.cf, .slice pa.l p.last.length pa.cl, .slice pa.w p.follow.length pa.cw]).alloc (.cells #[.string x.text, .int .i64 cf, .int .i64 ef, .bool false] 34)
  have hbs := Blk.new (y.alloc (.cells #[.slice pa.s p.sets.length pa.cs, .int .i64 p.null, .slice pa.f p.first.length pa.cf, .slice pa.l p.last.length pa.cl, .slice pa.w p.follow.length pa.cw] 26)) 34 #[.string x.text, .int .i64 cf, .int .i64 ef, .bool false]
  rw [World.size_alloc] at hbs
  have hbel := ((Below.refl y.heap.size y).alloc (Nat.le_refl _) (.cells #[.slice pa.s p.sets.length pa.cs, .int .i64 p.null, .slice pa.f p.first.length pa.cf, .slice pa.l p.last.length pa.cl, .slice pa.w p.follow.length pa.cw] 26)).alloc (by simp) (.cells #[.string x.text, .int .i64 cf, .int .i64 ef, .bool false] 34)
  have hsz : y.heap.size + 2 ≤ ((y.alloc (.cells #[.slice pa.s p.sets.length pa.cs, .int .i64 p.null, .slice pa.f p.first.length pa.cf, .slice pa.l p.last.length pa.cl, .slice pa.w p.follow.length pa.cw] 26)).alloc (.cells #[.string x.text, .int .i64 cf, .int .i64 ef, .bool false] 34)).heap.size := by simp
  have hsz2 : ((y.alloc (.cells #[.slice pa.s p.sets.length pa.cs, .int .i64 p.null, .slice pa.f p.first.length pa.cf, .slice pa.l p.last.length pa.cl, .slice pa.w p.follow.length pa.cw] 26)).alloc (.cells #[.string x.text, .int .i64 cf, .int .i64 ef, .bool false] 34)).heap.size = y.heap.size + 1 + 1 := by simp
  rw [hsz2] at hmk
  subst hn
  go_enter Tryd.func50, Tryd.ntmps50
  go_upto_if 17 with fail
  have hrw := BoRow.new ((y.alloc (.cells #[.slice pa.s p.sets.length pa.cs, .int .i64 p.null, .slice pa.f p.first.length pa.cf, .slice pa.l p.last.length pa.cl, .slice pa.w p.follow.length pa.cw] 26)).alloc (.cells #[.string x.text, .int .i64 cf, .int .i64 ef, .bool false] 34)) p.sets.length
  rw [hsz2] at hrw
  have hb3 := (Below.refl ((y.alloc (.cells #[.slice pa.s p.sets.length pa.cs, .int .i64 p.null, .slice pa.f p.first.length pa.cf, .slice pa.l p.last.length pa.cl, .slice pa.w p.follow.length pa.cw] 26)).alloc (.cells #[.string x.text, .int .i64 cf, .int .i64 ef, .bool false] 34)).heap.size ((y.alloc (.cells #[.slice pa.s p.sets.length pa.cs, .int .i64 p.null, .slice pa.f p.first.length pa.cf, .slice pa.l p.last.length pa.cl, .slice pa.w p.follow.length pa.cw] 26)).alloc (.cells #[.string x.text, .int .i64 cf, .int .i64 ef, .bool false] 34))).alloc (Nat.le_refl _) (.cells (madeCells #[.bool false] p.sets.length) 4)
  replace hbp := hbp.nxt hb3
  replace hbs := hbs.nxt hb3
  replace hbel := hbel.trans (hb3.mono hbel.size)
  have H0 := hide (And.intro hrw (And.intro hbel (And.intro hbp hbs)))
  clear hrw hbel hbp hbs hb3 hmk hsz hsz2
  generalize (((y.alloc (.cells #[.slice pa.s p.sets.length pa.cs, .int .i64 p.null, .slice pa.f p.first.length pa.cf, .slice pa.l p.last.length pa.cl, .slice pa.w p.follow.length pa.cw] 26)).alloc (.cells #[.string x.text, .int .i64 cf, .int .i64 ef, .bool false] 34)).alloc (.cells (madeCells #[.bool false] p.sets.length) 4)) = W0 at *
  go_cut [11] (fun z wx => z = .slice (some ⟨y.heap.size + 1 + 1, 0, none⟩) p.sets.length p.sets.length ∧ BoRow wx (y.heap.size + 1 + 1) p.sets.length (stepK p mk bt starts F 0) ∧ Below y.heap.size y wx ∧ Blk wx y.heap.size 26 #[.slice pa.s p.sets.length pa.cs, .int .i64 p.null, .slice pa.f p.first.length pa.cf, .slice pa.l p.last.length pa.cl, .slice pa.w p.follow.length pa.cw] ∧ Blk wx (y.heap.size + 1) 34 #[.string x.text, .int .i64 cf, .int .i64 ef, .bool false])
  case first =>
    cases starts with
    | false =>
      go_wp2_with fail
      go_meet
      case rel => exact ⟨rfl, H0.out.1.congr fun q _ => by simp [stepK], H0.out.2⟩
    | true =>
      have cp := H0.out.2.2.1.cell
      have cs := H0.out.2.2.2.cell
      go_wp2_with fail
      refine (HL.out (y.heap.size + 1 + 1) _ p.first pa.f pa.cf _ H0.out.2.1 (by omega) HOK.out.2.first HOK.out.1.nf HIN.out.first H0.out.1).mono ?_
      rintro e w3 ⟨rfl, hled⟩
      have HD := hide hled
      clear hled cp cs
      go_wp2_with fail
      go_meet
      case rel => exact ⟨rfl, HD.out.row.congr fun q _ => by simp [stepK], H0.out.2.1.trans HD.out.below, H0.out.2.2.1.same HD.out.same ⟨H0.out.2.2.1.lt, by omega⟩, H0.out.2.2.2.same HD.out.same ⟨H0.out.2.2.2.lt, by omega⟩⟩
  case rest =>
  obtain ⟨rfl, hcut⟩ := hcut
  have HC := hide hcut
  clear hcut H0
  go_wp2_with fail
  go_loopw [11, 12] (fun fv kv wr => ∃ k : Nat, fv = .slice (some ⟨y.heap.size + 1 + 1, 0, none⟩) p.sets.length p.sets.length ∧ kv = .int .i64 k ∧ k ≤ p.sets.length ∧ BoRow wr (y.heap.size + 1 + 1) p.sets.length (stepK p mk bt starts F k) ∧ Below y.heap.size y wr ∧ Blk wr y.heap.size 26 #[.slice pa.s p.sets.length pa.cs, .int .i64 p.null, .slice pa.f p.first.length pa.cf, .slice pa.l p.last.length pa.cl, .slice pa.w p.follow.length pa.cw] ∧ Blk wr (y.heap.size + 1) 34 #[.string x.text, .int .i64 cf, .int .i64 ef, .bool false]) (fun _ kv _ => p.sets.length - (intOf kv).toNat)
  case atStart => exact ⟨0, rfl, rfl, by omega, HC.out⟩
  case round =>
    clear HC
    obtain ⟨k, rfl, rfl, hk, hrw, hbel, hbp, hbs⟩ := hrel
    by_cases hlt : k < p.sets.length
    case neg =>
      have g1 : decide ((k : Int) < (p.sets.length : Int)) = false := decide_eq_false (by omega)
      obtain rfl : k = p.sets.length := by omega
      have HH := hide (And.intro hrw hbel)
      clear hrw hbel hbp hbs
      go_wp2_with fail
      go_ret
      exact ⟨_, rfl, HH.out.1, by omega, HH.out.2⟩
    have g1 : decide ((k : Int) < (p.sets.length : Int)) = true := decide_eq_true (by omega)
    have cf' := (HR.out.same (same_of_below hbel) HR.out.lt).cell k hlt
    have HJ := hide (And.intro hbp (And.intro hbs (And.intro hrw hbel)))
    clear hrw hbel hbp hbs
    cases hfk : F k with
    | false =>
      rw [hfk] at cf'
      have HK := hide hfk
      clear hfk
      go_wp2_with fail
      go_roundw
      case rel => exact ⟨k + 1, rfl, by go_num, hlt, HJ.out.2.2.1.congr fun q _ => by rw [stepK_succ, HK.out]; simp, HJ.out.2.2.2, HJ.out.1, HJ.out.2.1⟩
      case measure => simp [intOf]; omega
    | true =>
      rw [hfk] at cf'
      have HK := hide hfk
      have hkf : k < p.follow.length := by have := HNN.out.2; omega
      have hrr := List.getElem?_eq_getElem hkf
      have hgd : p.follow.getD k [] = p.follow[k] := by rw [List.getD_eq_getElem?_getD, hrr]; rfl
      have hmr := List.getElem_mem hkf
      generalize p.follow[k] = r at *
      obtain ⟨bf, of, Br, cr, ef', hbf, c0, hri⟩ := HIN.out.follow.cell hrr
      have HRR := hide (And.intro hgd (And.intro hri (And.intro (HOK.out.2.follow k r hrr) (HOK.out.1.follow r hmr).1)))
      have HC0 := hide c0
      have HEF := hide ef'
      clear hfk hrr hgd hmr hri c0 ef'
      go_upto_region 8 with fail
      clear cf'
      refine wp_region_mix (fun y => Below wr.heap.size wr y) [9] (by kernel_rfl) (fun hcl => ?_)
      have hS : Below wr.heap.size wr wr.drew := (Below.refl _ _).drew
      refine wpAnyT_take (i := 0) hcl rfl (by kernel_rfl) (v := ?_) (fun _ _ _ h => h) hS (Or.inl ⟨rfl, fun w' hS => ?_⟩) (fun hcl => ?_)
      rotate_left
      · skip
        have cp := (HJ.out.1.below hS HJ.out.1.lt).cell
        go_simp
        with_reducible rfl
      simp only [List.getElem_toArray, List.getElem_cons_zero, List.getElem_cons_succ, Act.put, List.setIfInBounds_toArray, List.set_cons_zero, List.set_cons_succ]
      refine wpAnyT_take (i := 1) hcl rfl (by kernel_rfl) (v := ?_) (fun _ _ _ h => h) hS (Or.inl ⟨rfl, fun w' hS => ?_⟩) (fun hcl => ?_)
      rotate_left
      · skip
        have cs := (HJ.out.2.1.below hS HJ.out.2.1.lt).cell
        go_simp
        with_reducible rfl
      simp only [List.getElem_toArray, List.getElem_cons_zero, List.getElem_cons_succ, Act.put, List.setIfInBounds_toArray, List.set_cons_zero, List.set_cons_succ]
      refine wpAnyT_free (i := 2) hcl rfl (by kernel_rfl) (v := ?_) (fun _ _ _ h => h) hS (Or.inl ⟨rfl, fun w' _ => ?_⟩) (fun hcl => ?_)
      rotate_left
      · go_simp
        with_reducible rfl
      simp only [List.getElem_toArray, List.getElem_cons_zero, List.getElem_cons_succ, Act.put, List.setIfInBounds_toArray, List.set_cons_zero, List.set_cons_succ]
      refine wpAnyT_free (i := 3) hcl rfl (by kernel_rfl) (v := ?_) (fun _ _ _ h => h) hS (Or.inl ⟨rfl, fun w' _ => ?_⟩) (fun hcl => ?_)
      rotate_left
      · go_simp
        with_reducible rfl
      simp only [List.getElem_toArray, List.getElem_cons_zero, List.getElem_cons_succ, Act.put, List.setIfInBounds_toArray, List.set_cons_zero, List.set_cons_succ]
      refine wpAnyT_take (i := 4) hcl rfl (by kernel_rfl) (v := ?_) (fun _ _ _ h => h) hS (Or.inl ⟨rfl, fun w' hS => ?_⟩) (fun hcl => ?_)
      rotate_left
      · skip
        have cp := (HJ.out.1.below hS HJ.out.1.lt).cell
        rw [HEF.out] at cp
        go_simp
        with_reducible rfl
      simp only [List.getElem_toArray, List.getElem_cons_zero, List.getElem_cons_succ, Act.put, List.setIfInBounds_toArray, List.set_cons_zero, List.set_cons_succ]
      refine wpAnyT_free (i := 5) hcl rfl (by kernel_rfl) (v := ?_) (fun _ _ _ h => h) hS (Or.inl ⟨rfl, fun w' _ => ?_⟩) (fun hcl => ?_)
      rotate_left
      · go_simp
        with_reducible rfl
      simp only [List.getElem_toArray, List.getElem_cons_zero, List.getElem_cons_succ, Act.put, List.setIfInBounds_toArray, List.set_cons_zero, List.set_cons_succ]
      refine wpAnyT_free (i := 6) hcl rfl (by kernel_rfl) (v := ?_) (fun _ _ _ h => h) hS (Or.inl ⟨rfl, fun w' _ => ?_⟩) (fun hcl => ?_)
      rotate_left
      · go_simp
        with_reducible rfl
      simp only [List.getElem_toArray, List.getElem_cons_zero, List.getElem_cons_succ, Act.put, List.setIfInBounds_toArray, List.set_cons_zero, List.set_cons_succ]
      refine wpAnyT_take (i := 7) hcl rfl (by kernel_rfl) (v := ?_) (fun _ _ _ h => h) hS (Or.inl ⟨rfl, fun w' hS => ?_⟩) (fun hcl => ?_)
      rotate_left
      · skip
        have c7 := (hS.cell (p := ⟨bf, of + k, none⟩) (by have := HJ.out.2.2.2.size; simp only; omega)).trans ((HJ.out.2.2.2.cell (p := ⟨bf, of + k, none⟩) hbf).trans HC0.out)
        go_simp
        with_reducible rfl
      simp only [List.getElem_toArray, List.getElem_cons_zero, List.getElem_cons_succ, Act.put, List.setIfInBounds_toArray, List.set_cons_zero, List.set_cons_succ]
      refine wpAnyT_free (i := 8) hcl rfl (by kernel_rfl) (v := ?_) (fun _ _ _ h => h) hS (Or.inl ⟨rfl, fun w' _ => ?_⟩) (fun hcl => ?_)
      rotate_left
      · go_simp
        with_reducible rfl
      simp only [List.getElem_toArray, List.getElem_cons_zero, List.getElem_cons_succ, Act.put, List.setIfInBounds_toArray, List.set_cons_zero, List.set_cons_succ]
      refine wpAnyT_last (i := 9) hcl rfl (by kernel_rfl) (by kernel_rfl) (fun hcl => ?_)
      simp only [List.getElem_toArray, List.getElem_cons_zero, List.getElem_cons_succ, Act.put, List.setIfInBounds_toArray, List.set_cons_zero, List.set_cons_succ]
      have HB := hide hS
      clear hS
      go_wp2_with fail
      refine (HL.out (y.heap.size + 1 + 1) _ r Br cr _ (HJ.out.2.2.2.trans (HB.out.mono HJ.out.2.2.2.size)) (by omega) HRR.out.2.2.1 HRR.out.2.2.2 HRR.out.2.1 (HJ.out.2.2.1.next HB.out)).mono ?_
      rintro e w3 ⟨rfl, hled⟩
      have HD := hide hled
      clear hled
      go_wp2_with fail
      refine wpAnyT_last (i := 10) hcl rfl (by kernel_rfl) (by kernel_rfl) (fun hcl => ?_)
      simp only [List.getElem_toArray, List.getElem_cons_zero, List.getElem_cons_succ, Act.put, List.setIfInBounds_toArray, List.set_cons_zero, List.set_cons_succ]
      go_wp2_with fail
      refine wpAnyT_done (by kernel_rfl) ?_ _
      go_wp2_with fail
      go_roundw
      case rel => exact ⟨k + 1, rfl, by go_num, hlt, HD.out.row.congr fun q _ => by rw [stepK_succ, HK.out, HRR.out.1]; simp, (HJ.out.2.2.2.trans (HB.out.mono HJ.out.2.2.2.size)).trans HD.out.below, (HJ.out.1.nxt HB.out).same HD.out.same ⟨(HJ.out.1.nxt HB.out).lt, by omega⟩, (HJ.out.2.1.nxt HB.out).same HD.out.same ⟨(HJ.out.2.1.nxt HB.out).lt, by omega⟩⟩
      case measure => simp [intOf]; omega
end Go.Proofs.YtlomjepemnlliaaDoor

/-! ## RefEnds18 -/
namespace Go.Proofs.YtlomjepemnlliaaDoor
open Go.RowKit

theorem endsB_snoc (m : Nat) (F : Nat → Bool) (l : List Ed) (e : Ed) : ((l ++ [e]).any fun e => F e.1.toNat && e.2.toNat.testBit m) = ((l.any fun e => F e.1.toNat && e.2.toNat.testBit m) || (F e.1.toNat && e.2.toNat.testBit m)) := by
  simp [List.any_append]

set_option maxRecDepth 100000 in
set_option maxHeartbeats 4000000 in
theorem refEnded_any (p : Po) (pa : PoA) (x : Sc) (cf ef : Int) (n gf : Nat) (F : Nat → Bool) (i : Nat) (starts : Bool) (y : World) (hr : RefSc x cf ef) (hi : i ≤ x.text.size) (hn : p.sets.length = n) (hwf : p.wf) (hok : p.Ok) (hin : PoIn (· < y.heap.size) y p pa) (hrow : BoRow y gf n F) :
    Calls Tryd.prog 49 #[.agg (p.cells pa).toArray, .agg #[.string x.text, .int .i64 cf, .int .i64 ef, .bool false], .slice (some ⟨gf, 0, none⟩) n n, .int .i64 i, .bool starts] y fun e y' => e = .returned (.bool (endsB p (x.mark i) starts F)) ∧ Below y.heap.size y y' := by
  have hm4 : x.mark i < 4 := by rw [hr.marks i hi]; exact markOf_lt _ _ _ _ _ _
  have HMk := hide (fun y => refMarks_any hr i hi y)
  obtain ⟨nu, hnu⟩ : ∃ nu : Nat, p.null = nu := ⟨p.null.toNat, by have := hok.low; omega⟩
  have hnu16 : nu < 16 := by have := hok.high; omega
  generalize x.mark i = mk at *
  have HRES := hide (show endsB p mk starts F = ((starts && nu.testBit mk) || p.last.any fun e => F e.1.toNat && e.2.toNat.testBit mk) from by unfold endsB; rw [hnu]; rfl)
  have HOPn := hide (fun y => refOpen_any nu mk hnu16 hm4 y)
  have HOP := hide (fun v (hv : v < 16) y => refOpen_any v mk hv hm4 y)
  have HLA := hide (And.intro (show EdOk n p.last by rw [← hn]; exact hok.last) hin.last)
  have hnl := hwf.nl
  have HR := hide hrow
  have hnn := hwf.ns
  simp only [Po.cells, hnu] at ⊢
  generalize endsB p mk starts F = res at *
  have hbp := (Blk.new y 26 #[.slice pa.s p.sets.length pa.cs, .int .i64 (nu : Int), .slice pa.f p.first.length pa.cf, .slice pa.l p.last.length pa.cl, .slice pa.w p.follow.length pa.cw]).alloc (.cells #[.string x.text, .int .i64 cf, .int .i64 ef, .bool false] 34)
  have hbs := Blk.new (y.alloc (.cells #[.slice pa.s p.sets.length pa.cs, .int .i64 (nu : Int), .slice pa.f p.first.length pa.cf, .slice pa.l p.last.length pa.cl, .slice pa.w p.follow.length pa.cw] 26)) 34 #[.string x.text, .int .i64 cf, .int .i64 ef, .bool false]
  rw [World.size_alloc] at hbs
  have hbel := ((Below.refl y.heap.size y).alloc (Nat.le_refl _) (.cells #[.slice pa.s p.sets.length pa.cs, .int .i64 (nu : Int), .slice pa.f p.first.length pa.cf, .slice pa.l p.last.length pa.cl, .slice pa.w p.follow.length pa.cw] 26)).alloc (by simp) (.cells #[.string x.text, .int .i64 cf, .int .i64 ef, .bool false] 34)
  have hn9 : n ≤ 9223372036854775807 := by omega
  have HNN := hide hn
  clear hr hwf hok hin hrow hnu hn
  go_enter Tryd.func49, Tryd.ntmps49
  go_wp2_with fail
  refine (HMk.out _).mono ?_
  rintro e w1 ⟨rfl, hb⟩
  have HJ := hide (And.intro (hbp.nxt hb) (hbel.trans (hb.mono hbel.size)))
  clear hb hbp hbs hbel HMk
  go_upto_region 2 with fail
  go_cut [12] (fun z wx => z = .bool (starts && nu.testBit mk) ∧ wx = w1)
  case first =>
    cases starts with
    | false =>
      go_wp2_with fail
      go_meet
      case rel => exact ⟨rfl, rfl⟩
    | true =>
      have cp := HJ.out.1.cell
      go_wp2_with fail
      refine (HOPn.out _).mono ?_
      rintro e w2 ⟨rfl, rfl⟩
      go_wp2_with fail
      go_meet
      case rel => exact ⟨by simp, rfl⟩
  case rest =>
  obtain ⟨rfl, hwc⟩ := hcut
  replace hwc := hwc.symm
  subst hwc
  obtain ⟨b0, hb0⟩ : ∃ b, b = (starts && nu.testBit mk) := ⟨_, rfl⟩
  rw [← hb0] at HRES ⊢
  clear HOPn hb0
  go_wp2_with fail
  go_loopw [12, 13] (fun bv kv wr => ∃ (b : Bool) (k : Nat), bv = .bool b ∧ kv = .int .i64 k ∧ k ≤ p.last.length ∧ b = (b0 || (p.last.take k).any fun e => F e.1.toNat && e.2.toNat.testBit mk) ∧ wr = w1) (fun _ kv _ => p.last.length - (intOf kv).toNat)
  case atStart => exact ⟨b0, 0, rfl, rfl, by omega, by simp, rfl⟩
  case round =>
    obtain ⟨b, k, rfl, rfl, hk, hbk, rfl⟩ := hrel
    have cp := HJ.out.1.cell
    by_cases hlt : k < p.last.length
    case neg =>
      have g1 : decide ((k : Int) < (p.last.length : Int)) = false := decide_eq_false (by omega)
      rw [List.take_of_length_le (by omega), ← HRES.out] at hbk
      have HB := hide hbk
      clear hbk
      go_wp2_with fail
      go_ret
      exact ⟨by rw [← HB.out]; rfl, HJ.out.2⟩
    have g1 : decide ((k : Int) < (p.last.length : Int)) = true := decide_eq_true (by omega)
    have he := List.getElem?_eq_getElem hlt
    have htk : p.last.take (k + 1) = p.last.take k ++ [p.last[k]] := by rw [List.take_add_one, he]; rfl
    generalize p.last[k] = e at *
    obtain ⟨be, oe, ep, hbe, c0, c1⟩ := HLA.out.2.cell he
    obtain ⟨v0, v1, v2, v3, _⟩ := HLA.out.1.at_ he
    obtain ⟨e1, e2⟩ := e
    simp only at c0 c1 v0 v1 v2 v3
    obtain ⟨q, hq⟩ : ∃ q : Nat, e1 = q := ⟨e1.toNat, by omega⟩
    obtain ⟨v, hv⟩ : ∃ v : Nat, e2 = v := ⟨e2.toNat, by omega⟩
    subst hq hv
    have hqn : q < n := by omega
    have hv16 : v < 16 := by omega
    rw [ep] at cp
    replace c0 := (HJ.out.2.cell (p := ⟨be, oe + k * 2, none⟩) hbe).trans c0
    replace c1 := (HJ.out.2.cell (p := ⟨be, oe + k * 2 + 1, none⟩) hbe).trans c1
    have cf' := (HR.out.same (same_of_below HJ.out.2) HR.out.lt).cell q hqn
    have hnx : (b0 || (p.last.take (k + 1)).any fun e => F e.1.toNat && e.2.toNat.testBit mk) = (b || (F q && v.testBit mk)) := by
      rw [htk, endsB_snoc, hbk, Bool.or_assoc]
      rfl
    have HN := hide hnx
    clear hnx htk he hbk ep
    have HOp := hide (HOP.out v hv16)
    generalize v.testBit mk = opn at *
    go_wp2_with fail
    refine (HOp.out _).mono ?_
    rintro e w2 ⟨rfl, rfl⟩
    cases b with
    | true =>
      go_wp2_with fail
      go_roundw
      case rel => exact ⟨true, k + 1, rfl, by go_num, hlt, by rw [HN.out]; rfl, trivial⟩
      case measure => simp [intOf]; omega
    | false =>
      obtain ⟨fq, hfq⟩ : ∃ b, b = F q := ⟨_, rfl⟩
      rw [← hfq] at cf' HN
      clear hfq
      cases fq <;>
        (go_wp2_with fail
         go_roundw
         case rel => exact ⟨_, k + 1, rfl, by go_num, hlt, by rw [HN.out]; simp, trivial⟩
         case measure => simp [intOf]; omega)
end Go.Proofs.YtlomjepemnlliaaDoor

/-! ## RefRun18 -/
namespace Go.Proofs.YtlomjepemnlliaaDoor
open Go.RowKit

/-- A list was returned. -/
def ListIs (l : List Int) (w : World) (e : Ending) (w' : World) : Prop := ∃ v, e = .returned v ∧ OwnInts w.heap.size w' v l ∧ Below w.heap.size w w'

theorem BoRow.grown {w w' : World} {g n : Nat} {p : Nat → Bool} {base : Nat} {v : Value} {l : List Int} (h : BoRow w g n p) (ho : OwnInts base w v l) {o : Obj} (hg : (w.alloc o).grownBy w' v.ownBlock) : BoRow w' g n p := by
  obtain ⟨row, hr, hn⟩ := h
  exact ⟨row, (hr.alloc o).grown hg (fun e => ho.ne_type hr (by decide) g e.symm rfl), hn⟩
theorem Blk.grew {w w' : World} {g : Nat} {t : TypeId} {cs : Array Value} {base : Nat} {v : Value} {l : List Int} (h : Blk w g t cs) (ht : t ≠ 3) (ho : OwnInts base w v l) {o : Obj} (hg : (w.alloc o).grownBy w' v.ownBlock) : Blk w' g t cs :=
  (h.alloc o).grown hg (fun e => ho.ne_type h ht g e.symm rfl)

set_option maxRecDepth 100000 in
set_option maxHeartbeats 4000000 in
theorem refEnds18_any (p : Po) (pa : PoA) (x : Sc) (cf ef : Int) (i : Nat) (w : World) (hr : RefSc x cf ef) (hi : i ≤ x.text.size) (hx6 : x.text.size < 900000) (hn6 : p.sets.length < 1000000) (hwf : p.wf) (hok : p.Ok) (hin : PoIn (· < w.heap.size) w p pa) :
    Calls Tryd.prog 18 #[.agg (p.cells pa).toArray, .agg #[.string x.text, .int .i64 cf, .int .i64 ef, .bool false], .int .i64 i] w (ListIs (endList p x i) w) := by
  have HEn := hide (fun (d gf : Nat) (G : Nat → Bool) (y : World) (hd : i + d ≤ x.text.size) (hy : Below w.heap.size w y) (hrow : BoRow y gf p.sets.length G) => refEnded_any p pa x cf ef p.sets.length gf G (i + d) (st0 d) y hr hd rfl hwf hok (hin.next hy) hrow)
  have HSt := hide (fun (d gf : Nat) (G : Nat → Bool) (y : World) (hd : i + d < x.text.size) (hy : Below w.heap.size w y) (hrow : BoRow y gf p.sets.length G) => refStep_any p pa x cf ef p.sets.length gf G (i + d) (st0 d) y hr hd rfl hn6 hwf hok (hin.next hy) hrow)
  have HMK := hide (fun W => run_bo (ts := 92) Tryd.underlying92 p.sets.length (by omega) W)
  have hns := hwf.ns
  clear hr hwf hok hin
  simp only [Po.cells] at HEn HSt ⊢
  have hmk := HMK.out ((w.alloc (.cells #[.slice pa.s p.sets.length pa.cs, .int .i64 p.null, .slice pa.f p.first.length pa.cf, .slice pa.l p.last.length pa.cl, .slice pa.w p.follow.length pa.cw] 26)).alloc (.cells #[.string x.text, .int .i64 cf, .int .i64 ef, .bool false] 34))
  have hbp := (Blk.new w 26 #[.slice pa.s p.sets.length pa.cs, .int .i64 p.null, .slice pa.f p.first.length pa.cf, .slice pa.l p.last.length pa.cl, .slice pa.w p.follow.length pa.cw]).alloc (.cells #[.string x.text, .int .i64 cf, .int .i64 ef, .bool false] 34)
  have hbs := Blk.new (w.alloc (.cells #[.slice pa.s p.sets.length pa.cs, .int .i64 p.null, .slice pa.f p.first.length pa.cf, .slice pa.l p.last.length pa.cl, .slice pa.w p.follow.length pa.cw] 26)) 34 #[.string x.text, .int .i64 cf, .int .i64 ef, .bool false]
  rw [World.size_alloc] at hbs
  have hbel := ((Below.refl w.heap.size w).alloc (Nat.le_refl _) (.cells #[.slice pa.s p.sets.length pa.cs, .int .i64 p.null, .slice pa.f p.first.length pa.cf, .slice pa.l p.last.length pa.cl, .slice pa.w p.follow.length pa.cw] 26)).alloc (by simp) (.cells #[.string x.text, .int .i64 cf, .int .i64 ef, .bool false] 34)
  have hsz2 : ((w.alloc (.cells #[.slice pa.s p.sets.length pa.cs, .int .i64 p.null, .slice pa.f p.first.length pa.cf, .slice pa.l p.last.length pa.cl, .slice pa.w p.follow.length pa.cw] 26)).alloc (.cells #[.string x.text, .int .i64 cf, .int .i64 ef, .bool false] 34)).heap.size = w.heap.size + 1 + 1 := by simp
  rw [hsz2] at hmk
  clear HMK
  go_enter Tryd.func18, Tryd.ntmps18
  go_wp2_with fail
  have hrw := BoRow.new ((w.alloc (.cells #[.slice pa.s p.sets.length pa.cs, .int .i64 p.null, .slice pa.f p.first.length pa.cf, .slice pa.l p.last.length pa.cl, .slice pa.w p.follow.length pa.cw] 26)).alloc (.cells #[.string x.text, .int .i64 cf, .int .i64 ef, .bool false] 34)) p.sets.length
  rw [hsz2] at hrw
  have hb3 := (Below.refl ((w.alloc (.cells #[.slice pa.s p.sets.length pa.cs, .int .i64 p.null, .slice pa.f p.first.length pa.cf, .slice pa.l p.last.length pa.cl, .slice pa.w p.follow.length pa.cw] 26)).alloc (.cells #[.string x.text, .int .i64 cf, .int .i64 ef, .bool false] 34)).heap.size ((w.alloc (.cells #[.slice pa.s p.sets.length pa.cs, .int .i64 p.null, .slice pa.f p.first.length pa.cf, .slice pa.l p.last.length pa.cl, .slice pa.w p.follow.length pa.cw] 26)).alloc (.cells #[.string x.text, .int .i64 cf, .int .i64 ef, .bool false] 34))).alloc (Nat.le_refl _) (.cells (madeCells #[.bool false] p.sets.length) 4)
  have H0 := hide (And.intro hrw (And.intro (hbp.nxt hb3) (And.intro (hbs.nxt hb3) (hbel.trans (hb3.mono hbel.size)))))
  clear hrw hbel hbp hbs hb3 hmk hsz2
  generalize (((w.alloc (.cells #[.slice pa.s p.sets.length pa.cs, .int .i64 p.null, .slice pa.f p.first.length pa.cf, .slice pa.l p.last.length pa.cl, .slice pa.w p.follow.length pa.cw] 26)).alloc (.cells #[.string x.text, .int .i64 cf, .int .i64 ef, .bool false] 34)).alloc (.cells (madeCells #[.bool false] p.sets.length) 4)) = W0 at *
  go_loopw [7, 8, 9] (fun lv fv iv wr => ∃ (d gf : Nat) (G : Nat → Bool), fv = .slice (some ⟨gf, 0, none⟩) p.sets.length p.sets.length ∧ iv = .int .i64 ((i : Int) + (d : Int)) ∧ i + d ≤ x.text.size + 1 ∧ OwnInts w.heap.size wr lv (endsUpto p x i st0 d) ∧ BoRow wr gf p.sets.length G ∧ (i + d ≤ x.text.size → G = frontB p x i st0 d) ∧ Blk wr w.heap.size 26 #[.slice pa.s p.sets.length pa.cs, .int .i64 p.null, .slice pa.f p.first.length pa.cf, .slice pa.l p.last.length pa.cl, .slice pa.w p.follow.length pa.cw] ∧ Blk wr (w.heap.size + 1) 34 #[.string x.text, .int .i64 cf, .int .i64 ef, .bool false] ∧ Below w.heap.size w wr) (fun _ _ iv _ => x.text.size + 1 - (intOf iv).toNat)
  case atStart => exact ⟨0, _, _, rfl, by simp, by omega, OwnInts.nil _ _, H0.out.1, (fun _ => rfl), H0.out.2⟩
  case round =>
    clear H0
    obtain ⟨d, gf, G, rfl, rfl, hd, hown, hrow, hG, hbp, hbs, hbel⟩ := hrel
    have cs := hbs.cell
    by_cases hlt : i + d ≤ x.text.size
    case neg =>
      have g1 : decide ((i : Int) + (d : Int) ≤ (x.text.size : Int)) = false := decide_eq_false (by omega)
      have hlist : endsUpto p x i st0 d = endList p x i := by unfold endList; rw [show x.len + 1 - i = d by have : x.len = x.text.size := rfl; omega]
      rw [hlist] at hown
      have HF := hide (And.intro hown hbel)
      clear hown hrow hbel hbp hbs hG
      go_wp2_with fail
      go_ret
      exact ⟨_, rfl, HF.out.1, HF.out.2⟩
    have g1 : decide ((i : Int) + (d : Int) ≤ (x.text.size : Int)) = true := decide_eq_true (by omega)
    have hst : ((i : Int) + (d : Int) == (i : Int)) = st0 d := by
      unfold st0
      rw [Bool.eq_iff_iff, beq_iff_eq, beq_iff_eq]
      omega
    have hcast : ((i + d : Nat) : Int) = (i : Int) + (d : Int) := by omega
    have hGG := hG hlt
    subst hGG
    have HE1 := hide (HEn.out d gf _ wr hlt hbel hrow)
    rw [hcast, show endsB p (x.mark (i + d)) (st0 d) (frontB p x i st0 d) = endAt p x i st0 d from rfl] at HE1
    have HS1 := hide (fun (y : World) (h : i + d < x.text.size) => HSt.out d gf (frontB p x i st0 d) y h)
    rw [hcast] at HS1
    obtain ⟨en, hen⟩ : ∃ b, b = endAt p x i st0 d := ⟨_, rfl⟩
    rw [← hen] at HE1
    have hes : endsUpto p x i st0 (d + 1) = endsUpto p x i st0 d ++ if en = true then [(i : Int) + (d : Int)] else [] := by rw [endsUpto_succ, ← hen, hcast]
    have hel := endsUpto_len p x i st0 d
    have cp := hbp.cell
    have HH := hide (And.intro hown (And.intro hrow (And.intro hbp (And.intro hbs (And.intro hbel hes)))))
    clear hown hrow hG hbp hbs hbel hes hen
    go_wp2_with (simp only [hst])
    refine HE1.out.mono ?_
    rintro e w2 ⟨rfl, hb⟩
    have hz2 := hb.size
    have H2 := hide (And.intro (HH.out.1.below hb (Nat.le_refl _)) (And.intro (HH.out.2.1.next hb) (And.intro (HH.out.2.2.1.nxt hb) (And.intro (HH.out.2.2.2.1.nxt hb) (HH.out.2.2.2.2.1.trans (hb.mono HH.out.2.2.2.2.1.size))))))
    have HES := hide HH.out.2.2.2.2.2
    clear hb HE1 cs cp HH
    go_upto_if 31 with fail
    go_cut [7] (fun lz wx => ∃ (A : Option Addr) (c : Nat), lz = .slice A (endsUpto p x i st0 (d + 1)).length c ∧ OwnInts w.heap.size wx (.slice A (endsUpto p x i st0 (d + 1)).length c) (endsUpto p x i st0 (d + 1)) ∧ BoRow wx gf p.sets.length (frontB p x i st0 d) ∧ Blk wx w.heap.size 26 #[.slice pa.s p.sets.length pa.cs, .int .i64 p.null, .slice pa.f p.first.length pa.cf, .slice pa.l p.last.length pa.cl, .slice pa.w p.follow.length pa.cw] ∧ Blk wx (w.heap.size + 1) 34 #[.string x.text, .int .i64 cf, .int .i64 ef, .bool false] ∧ Below w.heap.size w wx)
    case first =>
      cases en with
      | false =>
        have he2 : endsUpto p x i st0 (d + 1) = endsUpto p x i st0 d := by rw [HES.out]; simp
        go_wp2_with fail
        go_meet
        case rel =>
          rw [he2]
          obtain ⟨A, c, e, _, _⟩ := H2.out.1.form
          rw [e] at H2 ⊢
          exact ⟨A, c, rfl, H2.out⟩
      | true =>
        have he2 : endsUpto p x i st0 (d + 1) = endsUpto p x i st0 d ++ [(i : Int) + (d : Int)] := by rw [HES.out]; simp
        have hal := (Below.refl w2.heap.size w2).alloc (Nat.le_refl _) (.cells #[.int .i64 ((i : Int) + (d : Int))] 3)
        have hoA := hide (H2.out.1.below hal (Nat.le_refl _))
        have hlen : (endsUpto p x i st0 d).length < 1000000 := by omega
        have hw2s := H2.out.2.2.2.2.size
        have HE2 := hide he2
        clear he2
        go_wp2_with (at_builtin; refine wpList_push_int rfl _ _ rfl w.heap.size _ _ rfl hoA.out ((i : Int) + (d : Int)) w2.heap.size 1 rfl (Blk.new _ _ _) hlen (by simp; omega) ?_)
        intro v' w5 hown5 hg5 hv5
        obtain ⟨A5, c5, rfl, _, _⟩ := hown5.form
        have hb5 : Below w.heap.size w w5 := below_grew (H2.out.2.2.2.2.alloc (by omega) (.cells #[.int .i64 ((i : Int) + (d : Int))] 3)) hg5 (Nat.le_refl _) (fun g hg => (World.ownsRow.lt H2.out.1 g hg).1)
        have H5 := hide (And.intro hown5 (And.intro (H2.out.2.1.grown H2.out.1 hg5) (And.intro (H2.out.2.2.1.grew (by decide) H2.out.1 hg5) (And.intro (H2.out.2.2.2.1.grew (by decide) H2.out.1 hg5) hb5))))
        clear hown5 hg5 hb5 hv5 hoA hal
        go_wp2_with fail
        go_meet
        case rel =>
          rw [HE2.out]
          exact ⟨A5, c5, rfl, H5.out⟩
    case rest =>
    obtain ⟨A, c, rfl, hown, hrow, hbp, hbs, hbel⟩ := hcut
    have cs := hbs.cell
    have cp := hbp.cell
    have H3 := hide (And.intro hown (And.intro hrow (And.intro hbp (And.intro hbs hbel))))
    clear hown hrow hbp hbs hbel H2 HES
    by_cases hll2 : i + d < x.text.size
    · have g2 : decide ((i : Int) + (d : Int) < (x.text.size : Int)) = true := decide_eq_true (by omega)
      go_wp2_with (simp only [hst])
      refine (HS1.out _ hll2 H3.out.2.2.2.2 H3.out.2.1).mono ?_
      rintro e w3 ⟨gn, rfl, hrow, hgn, hb⟩
      have H4 := hide (And.intro (H3.out.1.below hb (Nat.le_refl _)) (And.intro hrow (And.intro (H3.out.2.2.1.nxt hb) (And.intro (H3.out.2.2.2.1.nxt hb) (H3.out.2.2.2.2.trans (hb.mono H3.out.2.2.2.2.size))))))
      clear hrow hb cs cp
      go_wp2_with fail
      go_roundw
      case rel => exact ⟨d + 1, gn, _, rfl, by go_num, by omega, H4.out.1, H4.out.2.1, (fun _ => rfl), H4.out.2.2⟩
      case measure => simp [intOf]; omega
    · have g2 : decide ((i : Int) + (d : Int) < (x.text.size : Int)) = false := decide_eq_false (by omega)
      clear cp
      go_wp2_with fail
      go_roundw
      case rel => exact ⟨d + 1, gf, _, rfl, by go_num, by omega, H3.out.1, H3.out.2.1, (fun h => by omega), H3.out.2.2⟩
      case measure => simp [intOf]; omega
end Go.Proofs.YtlomjepemnlliaaDoor
