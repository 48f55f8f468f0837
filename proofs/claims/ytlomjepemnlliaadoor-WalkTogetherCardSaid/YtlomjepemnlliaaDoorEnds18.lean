/- walk's ends: does a piece end at a place. (Printed by gen_ends18.py.) -/
import Derived.Test.YtlomjepemnlliaaDoorStep18
set_option linter.unusedSimpArgs false
set_option linter.unusedVariables false
namespace Go.Proofs.YtlomjepemnlliaaDoor
open Go.RowKit

/-- Does a piece end at marks m, F the front (and, at a start, the empty piece)? -/
def endsB (p : Po) (m : Nat) (starts : Bool) (F : Nat → Bool) : Bool := (starts && p.null.toNat.testBit m) || p.last.any fun e => F e.1.toNat && e.2.toNat.testBit m

/-- What a map of edges holds. -/
def edgeMap (l : List Ed) : Int → Int := l.foldl (fun f e z => if z = e.1 then e.2 else f z) (fun _ => 0)
theorem edgeMap_snoc (l : List Ed) (e : Ed) : edgeMap (l ++ [e]) = fun z => if z = e.1 then e.2 else edgeMap l z := by
  unfold edgeMap
  rw [List.foldl_append]
  rfl
theorem edgeMap_some : ∀ (n : Nat) (l : List Ed), l.length = n → ∀ z, (∃ e ∈ l, e.1 = z ∧ edgeMap l z = e.2) ∨ ((∀ e ∈ l, e.1 ≠ z) ∧ edgeMap l z = 0)
  | 0, l, h, z => by
    rw [List.eq_nil_of_length_eq_zero h]
    exact .inr ⟨by simp, rfl⟩
  | n + 1, l, h, z => by
    obtain ⟨l', e, rfl⟩ : ∃ l' e, l = l' ++ [e] := ⟨l.dropLast, l.getLast (by intro e; rw [e] at h; simp at h), (List.dropLast_concat_getLast _).symm⟩
    rw [edgeMap_snoc]
    by_cases hz : z = e.1
    · exact .inl ⟨e, by simp, hz.symm, by simp [hz]⟩
    · rcases edgeMap_some n l' (by simpa using h) z with ⟨f, h1, h2, h3⟩ | ⟨h1, h2⟩
      · exact .inl ⟨f, by simp [h1], h2, by simp [hz, h3]⟩
      · refine .inr ⟨fun f hf => ?_, by simp [hz, h2]⟩
        rcases List.mem_append.1 hf with h4 | h4
        · exact h1 f h4
        · obtain rfl : f = e := by simpa using h4
          exact fun e => hz e.symm

theorem EdOk.ge {n : Int} {l : List Ed} (h : EdOk n l) : ∀ (i : Nat) (e : Ed), l[i]? = some e → (i : Int) ≤ e.1
  | 0, e, hi => (h.at_ hi).1
  | i + 1, e, hi => by
    have hl := (List.getElem?_eq_some_iff.1 hi).1
    have hd := List.getElem?_eq_getElem (show i < l.length by omega)
    have h1 := EdOk.ge h i _ hd
    have h2 := (h.at_ hi).2.2.2.2 _ (by omega) hd
    omega
theorem EdOk.lt {n : Int} {l : List Ed} (h : EdOk n l) : ∀ (d i : Nat) (e f : Ed), l[i]? = some e → l[i + d + 1]? = some f → e.1 < f.1
  | 0, i, e, f, hi, hf => (h.at_ hf).2.2.2.2 e (by omega) hi
  | d + 1, i, e, f, hi, hf => by
    have hl := (List.getElem?_eq_some_iff.1 hf).1
    have hd := List.getElem?_eq_getElem (show i + d + 1 < l.length by omega)
    have h1 := EdOk.lt h d i e _ hi hd
    have h2 := (h.at_ hf).2.2.2.2 _ (by omega) hd
    omega
theorem EdOk.len {n : Nat} {l : List Ed} (h : EdOk n l) : l.length ≤ n := by
  rcases Nat.eq_zero_or_pos l.length with h0 | h0
  · omega
  · have hd := List.getElem?_eq_getElem (show l.length - 1 < l.length by omega)
    have h1 := h.ge _ _ hd
    have h2 := (h.at_ hd).2.1
    omega
theorem EdOk.uniq {n : Int} {l : List Ed} (h : EdOk n l) {e f : Ed} (he : e ∈ l) (hf : f ∈ l) (heq : e.1 = f.1) : e = f := by
  obtain ⟨i, hi, rfl⟩ := List.getElem_of_mem he
  obtain ⟨j, hj, rfl⟩ := List.getElem_of_mem hf
  have h1 := List.getElem?_eq_getElem hi
  have h2 := List.getElem?_eq_getElem hj
  rcases Nat.lt_trichotomy i j with hij | hij | hij
  · have := h.lt (j - i - 1) i _ _ h1 (by rw [show i + (j - i - 1) + 1 = j by omega]; exact h2)
    omega
  · subst hij; rfl
  · have := h.lt (i - j - 1) j _ _ h2 (by rw [show j + (i - j - 1) + 1 = i by omega]; exact h1)
    omega
theorem edgeMap_bit {n : Int} {l : List Ed} (h : EdOk n l) (q m : Nat) : (∃ v : Nat, edgeMap l q = v ∧ v < 16 ∧ (v.testBit m = true ↔ ∃ e ∈ l, e.1 = (q : Int) ∧ e.2.toNat.testBit m = true)) := by
  rcases edgeMap_some _ l rfl q with ⟨e, h1, h2, h3⟩ | ⟨h1, h2⟩
  · obtain ⟨i, hi, ei⟩ := List.getElem_of_mem h1
    have hb := h.at_ (k := i) (e := e) (by rw [List.getElem?_eq_getElem hi, ei])
    refine ⟨e.2.toNat, by rw [h3]; omega, by omega, fun hb => ⟨e, h1, h2, hb⟩, ?_⟩
    rintro ⟨f, f1, f2, f3⟩
    rw [h.uniq h1 f1 (by rw [h2, f2])]
    exact f3
  · refine ⟨0, h2, by omega, fun hb => by simp at hb, ?_⟩
    rintro ⟨f, f1, f2, f3⟩
    exact absurd f2 (h1 f f1)

set_option maxRecDepth 100000 in
set_option maxHeartbeats 4000000 in
theorem ends18_any (p : Po) (pa : PoA) (x : Sc) (sb sm n g gi B0 : Nat) (L : List Nat) (fv : Value) (y : World) (i : Nat) (starts : Bool) (hi : i ≤ x.len) (hn : p.sets.length = n) (hn6 : n < 1000000) (hwf : p.wf) (hok : p.Ok) (hW : WkAt p pa x sb sm n g gi B0 L fv y) (hB0 : B0 ≤ y.heap.size) (F : Nat → Bool) (hF : ∀ q, q ∈ L ↔ F q = true) :
    Calls Tryd.prog 46 #[.pointer (some ⟨g, 0, none⟩), .int .i64 i, .bool starts] y fun e y' => e = .returned (.bool (endsB p (x.mark i) starts F)) ∧ Below y.heap.size y y' := by
  have hmm := @run_makeMap Tryd.prog
  obtain ⟨As, Af, Al, Aw, ks, kf, kl, kw⟩ := pa
  have hbox := hW.box
  have hfr := hW.own
  have hfne := hW.ne
  have hm4 : x.mark i < 4 := hW.sc.small i
  have hfit := hW.sc.fits
  have HM := hide (marks_in hW.sc i hi)
  obtain ⟨LA, Lc, rfl, hll, hform⟩ := hfr.form
  rw [List.length_map] at hbox hll
  simp only at hbox
  have hfrm : ∀ (k q : Nat), L[k]? = some q → ∃ g, LA = some ⟨g, 0, none⟩ ∧ g < y.heap.size ∧ y.cell? ⟨g, k, none⟩ = some (.int .i64 (q : Int)) := fun k q hk => by
    obtain ⟨g, h1, _, h3, h4⟩ := hform k (q : Int) (by rw [List.getElem?_map, hk]; rfl)
    exact ⟨g, h1, h3, h4⟩
  have HFR := hide hfrm
  have hlast : EdIn (· < B0) y p.last Al := hW.po.last
  have HLA := hide (And.intro hok.last (And.intro hwf hlast))
  have hnl := hwf.nl
  have hl6 : p.last.length < 1000000 := by have := hok.last.len; omega
  obtain ⟨nu, hnu⟩ : ∃ nu : Nat, p.null = nu := ⟨p.null.toNat, by have := hok.low; omega⟩
  have hnu16 : nu < 16 := by have := hok.high; omega
  have cg := hbox.cell
  have HBX := hide hbox
  have hgl := hbox.lt
  generalize hmk : x.mark i = mk at *
  have HRES := hide (show endsB p mk starts F = ((starts && nu.testBit mk) || p.last.any fun e => F e.1.toNat && e.2.toNat.testBit mk) from by unfold endsB; rw [hnu]; rfl)
  have HOPn := hide (fun y => open_any nu mk hnu16 hm4 y)
  have HOP := hide (fun v (hv : v < 16) y => open_any v mk hv hm4 y)
  have HLF := hide hF
  generalize hres : endsB p mk starts F = res at *
  have hltn := hW.lt
  have HLT := hide hltn
  rw [hnu] at cg
  clear hW hform hfr hbox hwf hok hF hfrm hlast hmk hres hnu hltn
  go_enter Tryd.func46, Tryd.ntmps46
  go_wp2_with fail
  refine HM.out.mono ?_
  rintro e w1 ⟨rfl, rfl⟩
  go_upto_region 2 with fail
  go_cut [28] (fun z wx => z = .bool (starts && nu.testBit mk) ∧ wx = y)
  case first =>
    cases starts with
    | false =>
      go_wp2_with fail
      go_meet
      case rel => exact ⟨rfl, rfl⟩
    | true =>
      go_wp2_with fail
      refine (HOPn.out _).mono ?_
      rintro e w1 ⟨rfl, rfl⟩
      go_wp2_with fail
      go_meet
      case rel => exact ⟨by simp, rfl⟩
  case rest =>
  obtain ⟨rfl, hwc⟩ := hcut
  replace hwc := hwc.symm
  subst hwc
  clear HM HOPn
  cases hno : (starts && nu.testBit mk) with
  | true =>
    rw [hno] at HRES
    have hr : res = true := by rw [HRES.out]; rfl
    have HR := hide hr
    clear hr hno
    go_wp2_with fail
    go_ret
    exact ⟨by rw [HR.out]; rfl, Below.refl _ _⟩
  | false =>
  rw [hno, Bool.false_or] at HRES
  clear hno
  have hres : res = true ↔ ∃ e ∈ p.last, F e.1.toNat = true ∧ e.2.toNat.testBit mk = true := by
    rw [HRES.out, List.any_eq_true]
    constructor
    · rintro ⟨e, h1, h2⟩; rw [Bool.and_eq_true] at h2; exact ⟨e, h1, h2⟩
    · rintro ⟨e, h1, h2⟩; exact ⟨e, h1, by rw [Bool.and_eq_true]; exact h2⟩
  have HRS := hide hres
  have HMP := hide (IntMap.made y)
  have hbel := (Below.refl y.heap.size y).alloc (Nat.le_refl _) (.map #[] 0)
  have cg2 := (HBX.out.nxt hbel).cell
  have HBE := hide hbel
  clear hres hbel HRES
  go_wp2_with fail
  clear cg cg2
  go_loopw [36] (fun kv wr => ∃ k : Nat, kv = .int .i64 k ∧ k ≤ p.last.length ∧ IntMap wr y.heap.size k (edgeMap (p.last.take k)) ∧ Below y.heap.size y wr) (fun kv _ => p.last.length - (intOf kv).toNat)
  case atStart => exact ⟨0, rfl, by omega, HMP.out, HBE.out⟩
  case round =>
    clear HMP HBE
    obtain ⟨k, rfl, hk, hmap, hbel⟩ := hrel
    by_cases hlt : k < p.last.length
    case neg =>
      have g1 : decide ((k : Int) < (p.last.length : Int)) = false := decide_eq_false (by omega)
      obtain rfl : k = p.last.length := by omega
      rw [List.take_length] at hmap
      have cg := (HBX.out.nxt hbel).cell
      have HM1 := hide hmap
      have HB1 := hide hbel
      clear hmap hbel
      go_wp2_with fail
      clear cg
      rename World => W1
      go_loopw [51] (fun kv wr => ∃ k : Nat, kv = .int .i64 k ∧ k ≤ L.length ∧ (∀ q ∈ L.take k, ¬ ∃ e ∈ p.last, e.1 = (q : Int) ∧ e.2.toNat.testBit mk = true) ∧ wr = W1) (fun kv _ => L.length - (intOf kv).toNat)
      case atStart => exact ⟨0, rfl, by omega, by simp, rfl⟩
      case round =>
        obtain ⟨k, rfl, hk, hnone, hwr⟩ := hrel
        subst hwr
        by_cases hlt : k < L.length
        case neg =>
          have g2 : decide ((k : Int) < (L.length : Int)) = false := decide_eq_false (by omega)
          have hr : res = false := by
            cases hrr : res with
            | false => rfl
            | true =>
              obtain ⟨e, h1, h2, h3⟩ := HRS.out.1 hrr
              obtain ⟨i, hi, ei⟩ := List.getElem_of_mem h1
              have h4 := (HLA.out.1.at_ (k := i) (e := e) (by rw [List.getElem?_eq_getElem hi, ei])).1
              have h5 := (HLF.out e.1.toNat).2 h2
              rw [List.take_of_length_le (by omega)] at hnone
              exact absurd ⟨e, h1, by omega, h3⟩ (hnone _ h5)
          have HR := hide hr
          clear hr hnone
          go_wp2_with fail
          go_ret
          exact ⟨by rw [HR.out]; rfl, HB1.out⟩
        have g2 : decide ((k : Int) < (L.length : Int)) = true := decide_eq_true (by omega)
        have hz := List.getElem?_eq_getElem hlt
        have htk : L.take (k + 1) = L.take k ++ [L[k]] := by rw [List.take_add_one, hz]; rfl
        have hqm := List.getElem_mem hlt
        have hqn := HLT.out _ hqm
        generalize L[k] = q at *
        obtain ⟨gl, rfl, hgl2, cl⟩ := HFR.out k q hz
        obtain ⟨v, hv, hv16, hvb⟩ := edgeMap_bit HLA.out.1 q mk
        have cl2 := (HB1.out.cell (p := ⟨gl, k, none⟩) hgl2).trans cl
        have HQ := hide (And.intro htk (And.intro hqm (And.intro hvb hnone)))
        have HV := hide hv
        clear htk hqm hvb hnone hz cl hv
        go_wp2_with (refine wpList_map_get rfl _ _ rfl y.heap.size _ _ (q : Int) rfl rfl HM1.out ⟨by omega, by omega⟩ ?_)
        rw [HV.out]
        try simp only [Act.put, List.setIfInBounds_toArray, List.set_cons_succ, List.set_cons_zero]
        go_wp2_with fail
        refine (HOP.out v hv16 _).mono ?_
        rintro e w1 ⟨rfl, rfl⟩
        cases hb : v.testBit mk with
        | true =>
          rw [hb] at HQ
          have hr : res = true := by
            obtain ⟨e, h1, h2, h3⟩ := HQ.out.2.2.1.1 rfl
            exact HRS.out.2 ⟨e, h1, by rw [h2]; exact (HLF.out q).1 HQ.out.2.1, h3⟩
          have HR := hide hr
          clear hr hb
          go_wp2_with fail
          go_ret
          exact ⟨by rw [HR.out]; rfl, HB1.out⟩
        | false =>
          rw [hb] at HQ
          clear hb
          go_wp2_with fail
          go_roundw
          case rel =>
            refine ⟨k + 1, by go_num, hlt, fun z hz => ?_, trivial⟩
            rw [HQ.out.1] at hz
            rcases List.mem_append.1 hz with h | h
            · exact HQ.out.2.2.2 z h
            · obtain rfl : z = q := by simpa using h
              exact fun h9 => by have := HQ.out.2.2.1.2 h9; cases this
          case measure => simp [intOf]; omega
    have g1 : decide ((k : Int) < (p.last.length : Int)) = true := decide_eq_true (by omega)
    have he := List.getElem?_eq_getElem hlt
    have htk : p.last.take (k + 1) = p.last.take k ++ [p.last[k]] := by rw [List.take_add_one, he]; rfl
    generalize p.last[k] = e at *
    obtain ⟨be, oe, rfl, hbe, c0, c1⟩ := HLA.out.2.2.cell he
    obtain ⟨v0, v1, v2, v3, _⟩ := HLA.out.1.at_ he
    obtain ⟨e1, e2⟩ := e
    simp only at c0 c1 v0 v1 v2 v3
    replace c0 := (hbel.cell (p := ⟨be, oe + k * 2, none⟩) (by simp only; omega)).trans c0
    replace c1 := (hbel.cell (p := ⟨be, oe + k * 2 + 1, none⟩) (by simp only; omega)).trans c1
    have hz := hide (Blk.new wr 73 #[.int .i64 0, .int .i64 0])
    have HT := hide htk
    clear htk he
    go_wp2_with (refine wpList_store_row rfl _ _ _ rfl wr.heap.size 0 _ _ _ rfl rfl hz.out Tryd.sizeEdge (by simp) (by simp [Value.oneCell']) ?_)
    intro w2 hrow2 hg2 hz2
    have hrow := hrow2.out
    rw [splice_full (by rfl)] at hrow
    have hb2 : Below wr.heap.size wr w2 := below_grew ((Below.refl wr.heap.size wr).alloc (Nat.le_refl _) _) hg2 (Nat.le_refl _) (fun g hg => by injection hg with hg; omega)
    have ce := hrow.cell
    have HM2 := hide (hmap.next hb2)
    have HB2 := hide (hbel.trans (hb2.mono hbel.size))
    clear hrow2 hg2 hz2 hz c0 c1 hrow hb2 hmap hbel
    generalize wr.heap.size = ge at *
    go_wp2_with (refine wpList_map_put rfl _ _ _ rfl y.heap.size k _ e1 e2 rfl rfl rfl HM2.out (by omega) ⟨by omega, by omega⟩ ⟨by omega, by omega⟩ ?_)
    intro w3 hm3 hg3
    have HB3 := hide (below_grew HB2.out hg3 (Nat.le_refl _) (fun g hg => by injection hg with hg; omega))
    have HM3 := hide hm3
    clear hm3 hg3 ce
    try simp only [Act.put, List.setIfInBounds_toArray, List.set_cons_succ, List.set_cons_zero]
    go_wp2_with fail
    go_roundw
    case rel => exact ⟨k + 1, by go_num, hlt, by rw [HT.out, edgeMap_snoc]; exact HM3.out, HB3.out⟩
    case measure => simp [intOf]; omega
end Go.Proofs.YtlomjepemnlliaaDoor
