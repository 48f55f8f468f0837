/- Lead: The closure of walk's step: what edges lead to over a byte. (Printed by gen_lead.py.)
Step18: walk's step: over a byte. (Printed by gen_step18.py.)
Ends18: walk's ends: does a piece end at a place. (Printed by gen_ends18.py.)
Walk18: Asked18: walk.asked: the errors of a call; else a walker. (Printed by gen_asked18.py.)
Run18: The walk over positions, in plain Lean: fronts, ends.
Walk18: walk.Ends, Longest, Any. (Printed by gen_walk18.py.)
Any18: walk.Longest, walk.Any. (Printed by gen_any18.py.) -/
import Derived.Test.YtlomjepemnlliaaDoorPoCheck
import Derived.Test.YtlomjepemnlliaaDoorWays
import Derived.Test.YtlomjepemnlliaaDoorBoolRow
import Derived.Test.YtlomjepemnlliaaDoorPick
import Derived.Test.YtlomjepemnlliaaDoorScene
import Derived.OwnWalk
set_option linter.unusedSimpArgs false
set_option linter.unusedVariables false
set_option linter.unnecessarySimpa false

/-! ## Lead -/
namespace Go.Proofs.YtlomjepemnlliaaDoor
open Go.RowKit

/-- Is a byte in the set of position q? -/
def setHas (p : Po) (q b : Nat) : Bool :=
  match p.sets[q]? with
  | some s => Hd.has ⟨0, s.1, s.2.1, s.2.2.1, s.2.2.2, 0, 0, 0, false⟩ b
  | none => false
/-- Do the edges l lead to position q at marks m over byte b? -/
def leads (p : Po) (m b : Nat) (l : List Ed) (q : Nat) : Bool := l.any fun e => e.1 == (q : Int) && (e.2.toNat.testBit m && setHas p q b)
theorem leads_snoc (p : Po) (m b : Nat) (l : List Ed) (e : Ed) (q : Nat) : leads p m b (l ++ [e]) q = (leads p m b l q || (e.1 == (q : Int) && (e.2.toNat.testBit m && setHas p q b))) := by
  simp [leads, List.any_append]

theorem nodup_len : ∀ (n : Nat) (l : List Nat), l.Nodup → (∀ q ∈ l, q < n) → l.length ≤ n
  | 0, l, _, h => by
    cases l with
    | nil => simp
    | cons a l => have := h a (by simp); omega
  | n + 1, l, hd, h => by
    by_cases hn : n ∈ l
    · have h1 := nodup_len n (l.erase n) (hd.erase n) fun q hq => by
        have h2 := h q (List.mem_of_mem_erase hq)
        have h3 : q ≠ n := fun e => by subst e; exact (hd.mem_erase_iff.1 hq).1 rfl
        omega
      rw [List.length_erase_of_mem hn] at h1
      omega
    · have := nodup_len n l hd fun q hq => by
        have h2 := h q hq
        have h3 : q ≠ n := fun e => hn (e ▸ hq)
        omega
      omega

/-- The list of positions N lies in the variable of block bn. -/
def NextIs (y : World) (bn bN : Nat) (N : List Nat) : Prop := ∃ nv, Blk y bn 35 #[nv] ∧ OwnInts bN y nv (N.map fun q : Nat => (q : Int))
/-- The blocks that the closure leaves alone. -/
def Keep (gi bn bN : Nat) (b : Nat) : Prop := b < bN ∧ b ≠ gi ∧ b ≠ bn
theorem SeIn.cell {ok : Nat → Prop} {w : World} {l : List Se} {A : Option Addr} (h : SeIn ok w l A) {k : Nat} {s : Se} (hk : l[k]? = some s) :
    ∃ b o, A = some ⟨b, o, none⟩ ∧ ok b ∧ w.cell? ⟨b, o + k * 4, none⟩ = some (.int .u64 s.1) ∧ w.cell? ⟨b, o + k * 4 + 1, none⟩ = some (.int .u64 s.2.1) ∧ w.cell? ⟨b, o + k * 4 + 2, none⟩ = some (.int .u64 s.2.2.1) ∧ w.cell? ⟨b, o + k * 4 + 3, none⟩ = some (.int .u64 s.2.2.2) := by
  obtain ⟨b, o, e1, hb, hc⟩ := LIn.at_ h hk
  exact ⟨b, o, e1, hb, by simpa [Addr.add_lit] using hc 0 _ rfl, by simpa [Addr.add_lit] using hc 1 _ rfl, by simpa [Addr.add_lit] using hc 2 _ rfl, by simpa [Addr.add_lit] using hc 3 _ rfl⟩

/-- What the closure reads: the walker, its positions' sets, the marks, the byte. -/
structure LeadEnv (ok : Nat → Prop) (p : Po) (pa : PoA) (m b n g gi bw bm bb : Nat) (fv xv : Value) (y : World) : Prop where
  kw : ok bw
  km : ok bm
  kb : ok bb
  kg : ok g
  cw : Blk y bw 82 #[.pointer (some ⟨g, 0, none⟩)]
  cm : Blk y bm 3 #[.int .i64 m]
  cb : Blk y bb 5 #[.int .u8 b]
  cg : Blk y g 89 #[.slice pa.s p.sets.length pa.cs, .int .i64 p.null, .slice pa.f p.first.length pa.cf, .slice pa.l p.last.length pa.cl, .slice pa.w p.follow.length pa.cw, xv, fv, .slice (some ⟨gi, 0, none⟩) n n]
  sets : SeIn ok y p.sets pa.s
theorem LeadEnv.same {ok : Nat → Prop} {p : Po} {pa : PoA} {m b n g gi bw bm bb : Nat} {fv xv : Value} {y y' : World} (h : LeadEnv ok p pa m b n g gi bw bm bb fv xv y) (hs : Same ok y y') : LeadEnv ok p pa m b n g gi bw bm bb fv xv y' :=
  ⟨h.kw, h.km, h.kb, h.kg, h.cw.same hs h.kw, h.cm.same hs h.km, h.cb.same hs h.kb, h.cg.same hs h.kg, h.sets.same hs fun _ h => h⟩

theorem NextIs.later {y y' : World} {bn bN : Nat} {N : List Nat} (h : NextIs y bn bN N) (hb : Below y.heap.size y y') (x : Later y') : NextIs x.val bn bN N := by
  obtain ⟨nv, h1, h2⟩ := h
  exact ⟨nv, (h1.nxt hb).nxt x.2, (h2.below hb (Nat.le_refl _)).below x.2 (Nat.le_refl _)⟩

/-- What the closure leaves: the list of positions, the marks of those that are on it. -/
structure Led (p : Po) (m b n gi bn bN B0 : Nat) (N : List Nat) (r : List Ed) (y y' : World) (N' : List Nat) : Prop where
  next : NextIs y' bn bN N'
  row : BoRow y' gi n (fun q => decide (q ∈ N'))
  nodup : N'.Nodup
  lt : ∀ q ∈ N', q < n
  mem : ∀ q, q ∈ N' ↔ q ∈ N ∨ leads p m b r q = true
  below : Below B0 y y'
  same : Same (Keep gi bn bN) y y'

set_option maxRecDepth 100000 in
set_option maxHeartbeats 4000000 in
theorem lead_any (p : Po) (pa : PoA) (m b n g gi bw bm bb bn bN B0 : Nat) (fv xv : Value) (hm : m < 4) (hb : b < 256) (hn : p.sets.length = n) (hn6 : n < 1000000) (hwf : ∀ s ∈ p.sets, Se.wf s) (r : List Ed) (B : Option Addr) (c : Nat) (N : List Nat) (y : World)
    (hok : EdOk n r) (hrl : r.length ≤ 9223372036854775807) (hin : EdIn (Keep gi bn bN) y r B) (hE : LeadEnv (Keep gi bn bN) p pa m b n g gi bw bm bb fv xv y) (hnx : NextIs y bn bN N) (hrow : BoRow y gi n (fun q => decide (q ∈ N))) (hnd : N.Nodup) (hlt : ∀ q ∈ N, q < n)
    (h0i : B0 ≤ gi) (h0n : B0 ≤ bn) (h0N : B0 ≤ bN) (hiN : gi < bN) (hnN : bn < bN) (hNy : bN ≤ y.heap.size) :
    Calls Tryd.prog 81 #[.slice B r.length c, .pointer (some ⟨bw, 0, none⟩), .pointer (some ⟨bm, 0, none⟩), .pointer (some ⟨bb, 0, none⟩), .pointer (some ⟨bn, 0, none⟩)] y fun e y' => e = .returned (.tuple #[]) ∧ ∃ N', Led p m b n gi bn bN B0 N r y y' N' := by
  have HIn := hide hin
  have HE := hide hE
  have HOk := hide (And.intro hok hwf)
  have HN0 := hide (Led.mk (p := p) (m := m) (b := b) (n := n) (gi := gi) (bn := bn) (bN := bN) (B0 := B0) (N := N) (r := r.take 0) (y := y) (y' := y) hnx hrow hnd hlt (fun q => by simp [leads]) (Below.refl _ _) (Same.refl _ _))
  clear hin hE hok hwf hnx hrow hnd hlt
  go_enter Tryd.func81, Tryd.ntmps81
  go_wp2_with fail
  go_loopw [10] (fun kv wr => ∃ (k : Nat) (N' : List Nat), kv = .int .i64 k ∧ k ≤ r.length ∧ Led p m b n gi bn bN B0 N (r.take k) y wr N') (fun kv _ => r.length - (intOf kv).toNat)
  case atStart => exact ⟨0, N, rfl, by omega, HN0.out⟩
  case round =>
    clear HN0
    obtain ⟨k, N', rfl, hk, hled⟩ := hrel
    by_cases hlt : k < r.length
    case neg =>
      have g1 : decide ((k : Int) < (r.length : Int)) = false := decide_eq_false (by omega)
      obtain rfl : k = r.length := by omega
      rw [List.take_length] at hled
      have HH := hide hled
      clear hled
      go_wp2_with fail
      go_end0
      exact ⟨rfl, N', HH.out⟩
    have g1 : decide ((k : Int) < (r.length : Int)) = true := decide_eq_true (by omega)
    have he := List.getElem?_eq_getElem hlt
    have htk : r.take (k + 1) = r.take k ++ [r[k]] := by rw [List.take_add_one, he]; rfl
    generalize r[k] = e at *
    obtain ⟨be, oe, rfl, hbe, c0, c1⟩ := (HIn.out.same hled.same (fun _ h => h)).cell he
    obtain ⟨v0, v1, v2, v3, _⟩ := HOk.out.1.at_ he
    obtain ⟨e1, e2⟩ := e
    simp only at c0 c1 v0 v1 v2 v3
    obtain ⟨q, hq⟩ : ∃ q : Nat, e1 = q := ⟨e1.toNat, by omega⟩
    obtain ⟨v, hv⟩ : ∃ v : Nat, e2 = v := ⟨e2.toNat, by omega⟩
    subst hq hv
    have hqn : q < n := by omega
    have hv16 : v < 16 := by omega
    have hqs : q < p.sets.length := by omega
    have hs := List.getElem?_eq_getElem hqs
    have hswf := HOk.out.2 _ (List.getElem_mem hqs)
    have hsh : setHas p q b = Hd.has ⟨0, p.sets[q].1, p.sets[q].2.1, p.sets[q].2.2.1, p.sets[q].2.2.2, 0, 0, 0, false⟩ b := by unfold setHas; rw [hs]
    have hmem : ∀ z, z ∈ N ∨ leads p m b (r.take (k + 1)) z = true ↔ (z ∈ N' ∨ (z = q ∧ v.testBit m = true ∧ setHas p q b = true)) := fun z => by
      rw [htk, leads_snoc, hled.mem z]
      simp only [Bool.or_eq_true, Bool.and_eq_true, beq_iff_eq, Int.toNat_natCast]
      constructor
      · rintro (h | h | ⟨h1, h2, h3⟩)
        · exact .inl (.inl h)
        · exact .inl (.inr h)
        · obtain rfl : z = q := by omega
          exact .inr ⟨rfl, h2, h3⟩
      · rintro ((h | h) | ⟨rfl, h2, h3⟩)
        · exact .inl h
        · exact .inr (.inl h)
        · exact .inr (.inr ⟨rfl, h2, h3⟩)
    have henv := HE.out.same hled.same
    have HM := hide hmem
    have HL := hide hled
    have hNr := Nat.le_trans hNy hled.below.size
    clear hmem htk hled he
    have hz := hide (Blk.new wr 73 #[.int .i64 0, .int .i64 0])
    go_wp2_with (refine wpList_store_row rfl _ _ _ rfl wr.heap.size 0 _ _ _ rfl rfl hz.out Tryd.sizeEdge (by simp) (by simp [Value.oneCell']) ?_)
    intro w2 hrow2 hg2 hz2
    have hrow := hrow2.out
    rw [splice_full (by rfl)] at hrow
    have hb2 : Below wr.heap.size wr w2 := below_grew ((Below.refl wr.heap.size wr).alloc (Nat.le_refl _) _) hg2 (Nat.le_refl _) (fun g hg => by injection hg with hg; omega)
    clear hrow2 hg2 hz2 hz c0 c1
    generalize p.sets[q] = s at *
    obtain ⟨s0, s1, s2, s3⟩ := s
    simp only at hsh hswf
    obtain ⟨bs, os, es, hbs, z0, z1, z2, z3⟩ := henv.sets.cell hs
    have heN : wr.heap.size < w2.heap.size := hrow.lt
    have hbK : ∀ x : Later w2, Same (Keep gi bn bN) wr x.val := fun x => ((same_of_below hb2).mono fun b h => Nat.lt_of_lt_of_le h.1 hNr).trans ((same_of_below x.2).mono fun b h => Nat.lt_of_lt_of_le h.1 (Nat.le_trans hNr (Nat.le_of_lt heN)))
    have hbi : ∀ x : Later w2, BoRow x.val gi n (fun q => decide (q ∈ N')) := fun x => (HL.out.row.next hb2).next x.2
    have q0 := fun (x : Later w2) => (henv.cw.same (hbK x) henv.kw).cell
    have q1 := fun (x : Later w2) => (henv.cm.same (hbK x) henv.km).cell
    have q2 := fun (x : Later w2) => (henv.cb.same (hbK x) henv.kb).cell
    have q3 := fun (x : Later w2) => (henv.cg.same (hbK x) henv.kg).cell
    have q4 := fun (x : Later w2) => (hrow.below x.2 hrow.lt).cell
    have q5 := fun (x : Later w2) => (hbi x).cell q hqn
    have y0 := fun (x : Later w2) => ((hbK x).cell (a := ⟨bs, os + q * 4, none⟩) hbs).trans z0
    have y1 := fun (x : Later w2) => ((hbK x).cell (a := ⟨bs, os + q * 4 + 1, none⟩) hbs).trans z1
    have y2 := fun (x : Later w2) => ((hbK x).cell (a := ⟨bs, os + q * 4 + 2, none⟩) hbs).trans z2
    have y3 := fun (x : Later w2) => ((hbK x).cell (a := ⟨bs, os + q * 4 + 3, none⟩) hbs).trans z3
    have HLT := hide (fun (x : Later w2) => HL.out.below.trans ((hb2.trans (x.2.mono hb2.size)).mono (Nat.le_trans h0N hNr)))
    have HSM := hide (fun (x : Later w2) => HL.out.same.trans (hbK x))
    have hopen := hide (fun (x : Later w2) => (open_any v m hv16 hm x.val).mono fun e w' h => (⟨h.1, h.2 ▸ Below.refl _ _⟩ : e = .returned (.bool (v.testBit m)) ∧ Below x.val.heap.size x.val w'))
    have hhas := hide (fun (x : Later w2) => has_any s0 s1 s2 s3 b hb x.val hswf.1 hswf.2.1 hswf.2.2.1 hswf.2.2.2)
    rw [← hsh] at hhas
    have hnx := fun (x : Later w2) => NextIs.later HL.out.next hb2 x
    have HENV := hide (And.intro henv (And.intro hrow (And.intro hnx (And.intro hbi hbK))))
    rw [es] at q3
    obtain ⟨inq, hinq⟩ : ∃ t, t = decide (q ∈ N') := ⟨_, rfl⟩
    obtain ⟨opn, hopn⟩ : ∃ t, t = v.testBit m := ⟨_, rfl⟩
    obtain ⟨has, hhs⟩ : ∃ t, t = setHas p q b := ⟨_, rfl⟩
    rw [← hinq] at q5
    rw [← hopn] at hopen
    rw [← hhs] at hhas
    have HQ := hide (And.intro hinq (And.intro hopn hhs))
    clear hinq hopn hhs henv hrow hb2 hbi hbK hnx z0 z1 z2 z3 hs hsh hswf
    generalize wr.heap.size = ge at *
    cases inq with
    | true =>
      go_upto_region 3 with fail
      refine wp_region_later (by kernel_rfl) (by kernel_rfl) ?_
      repeat (go_big_quiet_step (first | exact calls_later (hopen.out _) | exact calls_later (hhas.out _)))
      refine wpQuiet_nil ?_
      rintro w' ⟨x, rfl⟩
      clear q0 q1 q2 q3 q4 q5 y0 y1 y2 y3
      go_wp2_with fail
      go_roundw
      case rel =>
        refine ⟨k + 1, N', by go_num, hlt, ⟨HENV.out.2.2.1 x, HENV.out.2.2.2.1 x, HL.out.nodup, HL.out.lt, fun z => ?_, HLT.out x, HSM.out x⟩⟩
        rw [HM.out z]
        constructor
        · exact .inl
        · rintro (h | ⟨rfl, h2, h3⟩)
          · exact h
          · exact of_decide_eq_true (HQ.out.1.symm)
      case measure => simp [intOf]; omega
    | false =>
    cases opn with
    | false =>
      go_upto_region 3 with fail
      refine wp_region_later (by kernel_rfl) (by kernel_rfl) ?_
      repeat (go_big_quiet_step (first | exact calls_later (hopen.out _) | exact calls_later (hhas.out _)))
      refine wpQuiet_nil ?_
      rintro w' ⟨x, rfl⟩
      clear q0 q1 q2 q3 q4 q5 y0 y1 y2 y3
      go_wp2_with fail
      go_roundw
      case rel =>
        refine ⟨k + 1, N', by go_num, hlt, ⟨HENV.out.2.2.1 x, HENV.out.2.2.2.1 x, HL.out.nodup, HL.out.lt, fun z => ?_, HLT.out x, HSM.out x⟩⟩
        rw [HM.out z]
        constructor
        · exact .inl
        · rintro (h | ⟨rfl, h2, h3⟩)
          · exact h
          · rw [← HQ.out.2.1] at h2; cases h2
      case measure => simp [intOf]; omega
    | true =>
    cases has with
    | false =>
      go_upto_region 3 with fail
      refine wp_region_later (by kernel_rfl) (by kernel_rfl) ?_
      repeat (go_big_quiet_step (first | exact calls_later (hopen.out _) | exact calls_later (hhas.out _)))
      refine wpQuiet_nil ?_
      rintro w' ⟨x, rfl⟩
      clear q0 q1 q2 q3 q4 q5 y0 y1 y2 y3
      go_wp2_with fail
      go_roundw
      case rel =>
        refine ⟨k + 1, N', by go_num, hlt, ⟨HENV.out.2.2.1 x, HENV.out.2.2.2.1 x, HL.out.nodup, HL.out.lt, fun z => ?_, HLT.out x, HSM.out x⟩⟩
        rw [HM.out z]
        constructor
        · exact .inl
        · rintro (h | ⟨rfl, h2, h3⟩)
          · exact h
          · rw [← HQ.out.2.2] at h3; cases h3
      case measure => simp [intOf]; omega
    | true =>
      go_upto_region 3 with fail
      refine wp_region_later (by kernel_rfl) (by kernel_rfl) ?_
      repeat (go_big_quiet_step (first | exact calls_later (hopen.out _) | exact calls_later (hhas.out _)))
      refine wpQuiet_nil ?_
      rintro w' ⟨x, rfl⟩
      clear y0 y1 y2 y3
      have hgne : gi ≠ ge := (HENV.out.2.2.2.1 x).ne (HENV.out.2.1.below x.2 HENV.out.2.1.lt) (by decide)
      go_upto_region 4 with fail
      refine wp_region_mix (fun y' => Below x.val.heap.size x.val y') [7] (by kernel_rfl) (fun hcl => ?_)
      have hS : Below x.val.heap.size x.val x.val.drew := (Below.refl _ _).drew
      refine wpAnyT_take (i := 0) hcl rfl (by kernel_rfl) (v := ?_) (fun _ _ _ h => h) hS (Or.inl ⟨rfl, fun w' hS => ?_⟩) (fun hcl => ?_)
      rotate_left
      · skip
        have r0 := q0 ⟨w', x.2.trans (hS.mono x.2.size)⟩
        go_simp
        with_reducible rfl
      simp only [List.getElem_toArray, List.getElem_cons_zero, List.getElem_cons_succ, Act.put, List.setIfInBounds_toArray, List.set_cons_zero, List.set_cons_succ]
      refine wpAnyT_free (i := 1) hcl rfl (by kernel_rfl) (v := ?_) (fun _ _ _ h => h) hS (Or.inl ⟨rfl, fun w' _ => ?_⟩) (fun hcl => ?_)
      rotate_left
      · go_simp
        with_reducible rfl
      simp only [List.getElem_toArray, List.getElem_cons_zero, List.getElem_cons_succ, Act.put, List.setIfInBounds_toArray, List.set_cons_zero, List.set_cons_succ]
      refine wpAnyT_free (i := 2) hcl rfl (by kernel_rfl) (v := ?_) (fun _ _ _ h => h) hS (Or.inl ⟨rfl, fun w' _ => ?_⟩) (fun hcl => ?_)
      rotate_left
      · go_simp
        with_reducible rfl
      simp only [List.getElem_toArray, List.getElem_cons_zero, List.getElem_cons_succ, Act.put, List.setIfInBounds_toArray, List.set_cons_zero, List.set_cons_succ]
      refine wpAnyT_take (i := 3) hcl rfl (by kernel_rfl) (v := ?_) (fun _ _ _ h => h) hS (Or.inl ⟨rfl, fun w' hS => ?_⟩) (fun hcl => ?_)
      rotate_left
      · skip
        have r3 := q3 ⟨w', x.2.trans (hS.mono x.2.size)⟩
        go_simp
        with_reducible rfl
      simp only [List.getElem_toArray, List.getElem_cons_zero, List.getElem_cons_succ, Act.put, List.setIfInBounds_toArray, List.set_cons_zero, List.set_cons_succ]
      refine wpAnyT_free (i := 4) hcl rfl (by kernel_rfl) (v := ?_) (fun _ _ _ h => h) hS (Or.inl ⟨rfl, fun w' _ => ?_⟩) (fun hcl => ?_)
      rotate_left
      · go_simp
        with_reducible rfl
      simp only [List.getElem_toArray, List.getElem_cons_zero, List.getElem_cons_succ, Act.put, List.setIfInBounds_toArray, List.set_cons_zero, List.set_cons_succ]
      refine wpAnyT_take (i := 5) hcl rfl (by kernel_rfl) (v := ?_) (fun _ _ _ h => h) hS (Or.inl ⟨rfl, fun w' hS => ?_⟩) (fun hcl => ?_)
      rotate_left
      · skip
        have r4 := q4 ⟨w', x.2.trans (hS.mono x.2.size)⟩
        go_simp
        with_reducible rfl
      simp only [List.getElem_toArray, List.getElem_cons_zero, List.getElem_cons_succ, Act.put, List.setIfInBounds_toArray, List.set_cons_zero, List.set_cons_succ]
      refine wpAnyT_free (i := 6) hcl rfl (by kernel_rfl) (v := ?_) (fun _ _ _ h => h) hS (Or.inl ⟨rfl, fun w' _ => ?_⟩) (fun hcl => ?_)
      rotate_left
      · go_simp
        with_reducible rfl
      simp only [List.getElem_toArray, List.getElem_cons_zero, List.getElem_cons_succ, Act.put, List.setIfInBounds_toArray, List.set_cons_zero, List.set_cons_succ]
      refine wpAnyT_last (i := 7) hcl rfl (by kernel_rfl) (by kernel_rfl) (fun hcl => ?_)
      simp only [List.getElem_toArray, List.getElem_cons_zero, List.getElem_cons_succ, Act.put, List.setIfInBounds_toArray, List.set_cons_zero, List.set_cons_succ]
      have c7 := q5 ⟨x.val.drew, x.2.trans (hS.mono x.2.size)⟩
      have hro := HENV.out.2.2.2.1 ⟨x.val.drew, x.2.trans (hS.mono x.2.size)⟩
      have hfz := hro.frozen
      have HRO := hide hro
      clear hro
      go_wp2_with fail
      refine wpAnyT_done (by kernel_rfl) ?_ _
      clear c7 hfz
      obtain ⟨nv, hbn, hon⟩ := HENV.out.2.2.1 x
      have hro := HENV.out.2.2.2.1 x
      have hbe := HENV.out.2.1.below x.2 HENV.out.2.1.lt
      have hngi : bn ≠ gi := fun e => (hro.ne hbn (by decide)) e.symm
      have hdr : Below (x.val.setCell ⟨gi, q, none⟩ (.bool true)).heap.size (x.val.setCell ⟨gi, q, none⟩ (.bool true)) (x.val.setCell ⟨gi, q, none⟩ (.bool true)).drew := (Below.refl _ _).drew
      have hrow := (hro.set q true hqn).next hdr
      replace hbn := (hbn.far (p := ⟨gi, q, none⟩) hngi (.bool true)).nxt hdr
      replace hbe := (hbe.far (p := ⟨gi, q, none⟩) (fun e => hgne e.symm) (.bool true)).nxt hdr
      have hon1 : OwnInts bN (x.val.setCell ⟨gi, q, none⟩ (.bool true)) nv _ := hon.same (ok := fun b => b ≠ gi) ((Same.refl _ _).set (fun h => h rfl) _) (fun g hg e => by have := (World.ownsRow.lt hon g hg).1; omega)
      replace hon := hon1.below hdr (Nat.le_refl _)
      have hbel : Below B0 y (x.val.setCell ⟨gi, q, none⟩ (.bool true)).drew := ((HLT.out x).setCell h0i _).drew
      have hsam : Same (Keep gi bn bN) y (x.val.setCell ⟨gi, q, none⟩ (.bool true)).drew := ((HSM.out x).set (fun h => h.2.1 rfl) _).trans ((same_of_below ((Below.refl (x.val.setCell ⟨gi, q, none⟩ (.bool true)).heap.size _).drew)).mono fun b hb => by
        have := hb.1
        have h1 := (HLT.out x).size
        have h2 : x.val.heap.size = (x.val.setCell ⟨gi, q, none⟩ (.bool true)).heap.size := by simp
        omega)
      clear hS HRO hro hdr hon1
      generalize (x.val.setCell ⟨gi, q, none⟩ (.bool true)).drew = W at *
      have hNW : bN ≤ W.heap.size := Nat.le_trans hNy hbel.size
      have cn := hbn.cell
      have ce := hbe.cell
      have hlen : (N'.map fun q : Nat => (q : Int)).length < 1000000 := by
        have := nodup_len n N' HL.out.nodup HL.out.lt
        rw [List.length_map]
        omega
      have hoA := hide (hon.below ((Below.refl W.heap.size W).alloc (Nat.le_refl _) (.cells #[.int .i64 (q : Int)] 3)) (Nat.le_refl _))
      have hown : ∀ g, nv.ownBlock = some g → bN ≤ g := fun g hg => (World.ownsRow.lt hon g hg).1
      have HW := hide (And.intro hrow (And.intro hbel (And.intro hsam (And.intro hbn hown))))
      clear hrow hbel hsam hbn hon hbe hown
      go_wp2_with (at_builtin; refine wpList_append_int rfl _ _ rfl bN _ _ rfl hoA.out (q : Int) W.heap.size 1 rfl (Blk.new _ _ _) hlen (by simp; omega) ?_)
      intro v' w5 hown5 hg5
      obtain ⟨A5, c5, rfl, _, _⟩ := hown5.form
      have hl5 : ((N'.map fun q : Nat => (q : Int)) ++ [(q : Int)]).length = N'.length + 1 := by simp
      rw [hl5] at hown5 ⊢
      clear hl5
      have hal : Same (fun b => b < W.heap.size) W (W.alloc (.cells #[.int .i64 (q : Int)] 3)) := same_of_below ((Below.refl W.heap.size W).alloc (Nat.le_refl _) _)
      have hs5 : Same (fun b => b < bN) W w5 := fun b hb => (hg5.block b (by simp; omega) (fun e => by have := HW.out.2.2.2.2 b e.symm; omega)).trans (hal b (by omega))
      have hbn5 := HW.out.2.2.2.1.same hs5 hnN
      have hb5 : Below B0 y w5 := below_grew (HW.out.2.1.alloc (by have := HW.out.2.1.size; omega) (.cells #[.int .i64 (q : Int)] 3)) hg5 (by omega) (fun g hg => by have := HW.out.2.2.2.2 g hg; omega)
      have hfn := hbn5.frozen
      have cn5 := hbn5.cell
      have H5 := hide (And.intro hown5 (And.intro hs5 (And.intro hbn5 hb5)))
      clear hown5 hg5 hal hs5 hbn5 hb5 hoA cn ce
      go_wp2_with fail
      go_roundw
      case rel =>
        refine ⟨k + 1, N' ++ [q], by go_num, hlt, ⟨⟨_, heap_setCell_same w5 bn 0 _ _ _ H5.out.2.2.1, ?_⟩, ?_, ?_, ?_, fun z => ?_, H5.out.2.2.2.setCell h0n _, ?_⟩⟩
        · rw [List.map_append]
          exact H5.out.1.same (ok := fun b => b ≠ bn) ((Same.refl _ _).set (fun h => h rfl) _) (fun g hg e => by have := (World.ownsRow.lt H5.out.1 g hg).1; omega)
        · refine ((HW.out.1.same H5.out.2.1 hiN).far (fun e => hngi e.symm) _).congr fun i hi => ?_
          by_cases h : i = q
          · simp [h]
          · simp [h]
        · exact List.nodup_append.2 ⟨HL.out.nodup, by simp, fun a ha b hb e => by
            have : b = q := by simpa using hb
            rw [e, this] at ha
            exact absurd (HQ.out.1.trans (decide_eq_true ha)) (by decide)⟩
        · intro z hz
          rcases List.mem_append.1 hz with h | h
          · exact HL.out.lt z h
          · have : z = q := by simpa using h
            omega
        · rw [HM.out z, List.mem_append]
          constructor
          · rintro (h | h)
            · exact .inl h
            · exact .inr ⟨by simpa using h, HQ.out.2.1.symm, HQ.out.2.2.symm⟩
          · rintro (h | ⟨h, _⟩)
            · exact .inl h
            · exact .inr (by simp [h])
        · exact (HW.out.2.2.1.trans (H5.out.2.1.mono fun b h => h.1)).set (fun h => h.2.2 rfl) _
      case measure => simp [intOf]; omega
end Go.Proofs.YtlomjepemnlliaaDoor

/-! ## Step18 -/
namespace Go.Proofs.YtlomjepemnlliaaDoor
open Go.RowKit

/-- The front behind a byte: to which positions the edges of the front lead (and, at a start, those of first). -/
def stepB (p : Po) (m b : Nat) (starts : Bool) (F : Nat → Bool) (q : Nat) : Bool := (starts && leads p m b p.first q) || (List.range p.sets.length).any fun k => F k && leads p m b (p.follow.getD k []) q

/-- A walker in memory: its box, its front, its marks; what it reads. -/
structure WkAt (p : Po) (pa : PoA) (x : Sc) (sb sm n g gi B0 : Nat) (L : List Nat) (fv : Value) (y : World) : Prop where
  po : PoIn (· < B0) y p pa
  sc : Scn y sb sm x
  ksb : sb < B0
  ksm : sm < B0
  kg : B0 ≤ g
  ki : B0 ≤ gi
  row : BoRow y gi n (fun _ => false)
  nodup : L.Nodup
  lt : ∀ q ∈ L, q < n
  box : Blk y g 89 #[.slice pa.s p.sets.length pa.cs, .int .i64 p.null, .slice pa.f p.first.length pa.cf, .slice pa.l p.last.length pa.cl, .slice pa.w p.follow.length pa.cw, .pointer (some ⟨sb, 0, none⟩), fv, .slice (some ⟨gi, 0, none⟩) n n]
  own : OwnInts B0 y fv (L.map fun q : Nat => (q : Int))
  ne : ∀ h, fv.ownBlock = some h → h ≠ gi

/-- The list of positions under way: P tells which are on it. -/
structure Mid (P : Nat → Prop) (n gi bn bN B0 : Nat) (y y' : World) (N : List Nat) : Prop where
  next : NextIs y' bn bN N
  row : BoRow y' gi n (fun q => decide (q ∈ N))
  nodup : N.Nodup
  lt : ∀ q ∈ N, q < n
  mem : ∀ q, q ∈ N ↔ P q
  below : Below B0 y y'
  same : Same (Keep gi bn bN) y y'

theorem OwnInts.low {b1 b2 : Nat} {w : World} {v : Value} {l : List Int} (h : OwnInts b1 w v l) (hb : b2 ≤ b1) : OwnInts b2 w v l := by
  refine ⟨h.1, ?_⟩
  rcases h.2 with h | ⟨g, cap, cur, e, hg, r⟩
  · exact .inl h
  · exact .inr ⟨g, cap, cur, e, Nat.le_trans hb hg, r⟩

set_option maxRecDepth 100000 in
set_option maxHeartbeats 4000000 in
theorem step18_any (p : Po) (pa : PoA) (x : Sc) (sb sm n g gi B0 : Nat) (L : List Nat) (fv : Value) (y : World) (i : Nat) (starts : Bool) (hi : i < x.len) (hn : p.sets.length = n) (hn6 : n < 1000000) (hwf : p.wf) (hok : p.Ok) (hW : WkAt p pa x sb sm n g gi B0 L fv y) (hB0 : B0 ≤ y.heap.size) (F : Nat → Bool) (hF : ∀ q, q ∈ L ↔ F q = true) :
    Calls Tryd.prog 47 #[.pointer (some ⟨g, 0, none⟩), .int .i64 i, .bool starts] y fun e y' => e = .returned (.tuple #[]) ∧ ∃ L' fv', WkAt p pa x sb sm n g gi B0 L' fv' y' ∧ (∀ q, q ∈ L' ↔ stepB p (x.mark i) (x.text.data.toList.getD i 0).toNat starts F q = true) ∧ Below B0 y y' ∧ (∀ h, fv'.ownBlock = some h → y.heap.size ≤ h) ∧ Same (fun b => b < y.heap.size ∧ b ≠ g ∧ b ≠ gi) y y' := by
  have hmf : ∀ (fn : Fn) (first cap : Array Value) (w : World), (Instr.makeFunc fn first cap).run Tryd.prog w = .ok (.func fn first cap) w := fun _ _ _ _ => rfl
  have hbox := hW.box
  have hfr := hW.own
  have hfne := hW.ne
  have hm4 : x.mark i < 4 := hW.sc.small i
  have hb256 : (x.text.data.toList.getD i 0).toNat < 256 := UInt8.toNat_lt _
  have hfit := hW.sc.fits
  have HM := hide (fun (o : Obj) => marks_in (hW.sc.below ((Below.refl _ _).alloc (Nat.le_refl _) o)) i (by omega))
  have HB := hide (fun (z : World) (hz : Below y.heap.size y z) => byte_in (hW.sc.below hz) i hi)
  have cg := fun (z : World) (hz : Below y.heap.size y z) => (hbox.nxt hz).cell
  have HW := hide (And.intro hW (And.intro hbox (And.intro hfr hfne)))
  have hgl := hbox.lt
  have hil := hW.row.lt
  have HOK := hide (And.intro hwf (And.intro hok hF))
  have hgi : g ≠ gi := fun e => hW.row.ne hbox (by decide) e.symm
  have hfn : p.follow.length = n := hok.len.trans hn
  have c0 := (hbox.alloc (.cells #[.pointer (some ⟨g, 0, none⟩)] 82)).cell
  have c1 := fun (o : Obj) => ((hbox.alloc (.cells #[.pointer (some ⟨g, 0, none⟩)] 82)).alloc o).cell
  have hkg0 := hW.kg
  have hki0 := hW.ki
  generalize hbt : (x.text.data.toList.getD i 0).toNat = bt at *
  generalize hmk : x.mark i = mk at *
  have HFN := hide (And.intro hfn hn)
  clear hW hbox hfr hfne hwf hok hF hbt hmk hfn hn
  go_enter Tryd.func47, Tryd.ntmps47
  go_wp2_with fail
  refine (HM.out _).mono ?_
  rintro e w1 ⟨rfl, rfl⟩
  go_wp2_with fail
  refine (HB.out _ (((Below.refl _ _).alloc (Nat.le_refl _) _).alloc (by simp) _)).mono ?_
  rintro e w1 ⟨rfl, rfl⟩
  clear c0 c1 cg HM HB
  go_upto_region 5 with fail
  have hbw := (((Blk.new y 82 #[.pointer (some ⟨g, 0, none⟩)]).alloc (.cells #[.int .i64 (mk : Int)] 3)).alloc (.cells #[.int .u8 (bt : Int)] 5)).alloc (.cells #[.slice none 0 0] 35)
  have hbm := ((Blk.new (y.alloc (.cells #[.pointer (some ⟨g, 0, none⟩)] 82)) 3 #[.int .i64 (mk : Int)]).alloc (.cells #[.int .u8 (bt : Int)] 5)).alloc (.cells #[.slice none 0 0] 35)
  have hbb := (Blk.new ((y.alloc (.cells #[.pointer (some ⟨g, 0, none⟩)] 82)).alloc (.cells #[.int .i64 (mk : Int)] 3)) 5 #[.int .u8 (bt : Int)]).alloc (.cells #[.slice none 0 0] 35)
  have hbn := Blk.new (((y.alloc (.cells #[.pointer (some ⟨g, 0, none⟩)] 82)).alloc (.cells #[.int .i64 (mk : Int)] 3)).alloc (.cells #[.int .u8 (bt : Int)] 5)) 35 #[.slice none 0 0]
  have hbel := ((((Below.refl y.heap.size y).alloc (Nat.le_refl _) (.cells #[.pointer (some ⟨g, 0, none⟩)] 82)).alloc (by simp) (.cells #[.int .i64 (mk : Int)] 3)).alloc (by simp; omega) (.cells #[.int .u8 (bt : Int)] 5)).alloc (by simp; omega) (.cells #[.slice none 0 0] 35)
  have hsz : y.heap.size + 4 ≤ ((((y.alloc (.cells #[.pointer (some ⟨g, 0, none⟩)] 82)).alloc (.cells #[.int .i64 (mk : Int)] 3)).alloc (.cells #[.int .u8 (bt : Int)] 5)).alloc (.cells #[.slice none 0 0] 35)).heap.size := by simp
  simp only [World.size_alloc] at hbm hbb hbn
  generalize ((((y.alloc (.cells #[.pointer (some ⟨g, 0, none⟩)] 82)).alloc (.cells #[.int .i64 (mk : Int)] 3)).alloc (.cells #[.int .u8 (bt : Int)] 5)).alloc (.cells #[.slice none 0 0] 35)) = Y at *
  have hkeep : ∀ b, b < B0 → Keep gi (y.heap.size + 1 + 1 + 1) (y.heap.size + 4) b := fun b hb => ⟨by omega, by omega, by omega⟩
  have henv : LeadEnv (Keep gi (y.heap.size + 1 + 1 + 1) (y.heap.size + 4)) p pa mk bt n g gi y.heap.size (y.heap.size + 1) (y.heap.size + 1 + 1) fv (.pointer (some ⟨sb, 0, none⟩)) Y :=
    ⟨⟨by omega, by omega, by omega⟩, ⟨by omega, by omega, by omega⟩, ⟨by omega, by omega, by omega⟩, ⟨by omega, hgi, by omega⟩, hbw, hbm, hbb, HW.out.2.1.nxt hbel, (HW.out.1.po.sets.same (same_of_below (hbel.mono hB0)) (fun b hb => hb)).same (Same.refl _ _) hkeep⟩
  have hedge : ∀ (r : List Ed) (A : Option Addr), EdIn (· < B0) y r A → ∀ wx, Same (Keep gi (y.heap.size + 1 + 1 + 1) (y.heap.size + 4)) Y wx → EdIn (Keep gi (y.heap.size + 1 + 1 + 1) (y.heap.size + 4)) wx r A := fun r A h wx hs => ((h.same (same_of_below (hbel.mono hB0)) hkeep).same hs (fun b hb => hb))
  have HL := hide (fun (r : List Ed) (A : Option Addr) (c : Nat) (N : List Nat) (wx : World) (h1 : EdOk n r) (h2 : r.length ≤ 9223372036854775807) (h3 : EdIn (· < B0) y r A) (h4 : Same (Keep gi (y.heap.size + 1 + 1 + 1) (y.heap.size + 4)) Y wx) (h5 : Below B0 Y wx) (h6 : NextIs wx (y.heap.size + 1 + 1 + 1) (y.heap.size + 4) N) (h7 : BoRow wx gi n (fun q => decide (q ∈ N))) (h8 : N.Nodup) (h9 : ∀ q ∈ N, q < n) =>
    lead_any p pa mk bt n g gi y.heap.size (y.heap.size + 1) (y.heap.size + 1 + 1) (y.heap.size + 1 + 1 + 1) (y.heap.size + 4) B0 fv (.pointer (some ⟨sb, 0, none⟩)) hm4 hb256 HFN.out.2 hn6 HOK.out.1.sets r A c N wx h1 h2 (hedge r A h3 wx h4) (henv.same h4) h6 h7 h8 h9 hki0 (by omega) (by omega) (by omega) (by omega) (by have := h5.size; omega))
  have HN0 := hide (Mid.mk (P := fun q => False) (n := n) (gi := gi) (bn := y.heap.size + 1 + 1 + 1) (bN := y.heap.size + 4) (B0 := B0) (y := Y) (y' := Y) (N := []) ⟨_, hbn, OwnInts.nil _ _⟩ ((HW.out.1.row.next hbel).congr fun i _ => by simp) List.nodup_nil (by simp) (by simp) (Below.refl _ _) (Same.refl _ _))
  have HY := hide (And.intro hbel (And.intro henv (And.intro hkeep hsz)))
  clear hbw hbm hbb hbn hbel hsz hkeep henv hedge
  go_upto_if 31 with fail
  go_cut [] (fun wx => ∃ N, Mid (fun q => starts = true ∧ leads p mk bt p.first q = true) n gi (y.heap.size + 1 + 1 + 1) (y.heap.size + 4) B0 Y wx N)
  case first =>
    cases starts with
    | false =>
      go_wp2_with fail
      go_meet
      case rel => exact ⟨[], HN0.out.next, HN0.out.row, HN0.out.nodup, HN0.out.lt, fun q => by simp, HN0.out.below, HN0.out.same⟩
    | true =>
      have cw := HY.out.2.1.cw.cell
      have cg := HY.out.2.1.cg.cell
      go_wp2_with fail
      refine (HL.out p.first pa.f pa.cf [] _ (by rw [← HFN.out.2]; exact HOK.out.2.1.first) HOK.out.1.nf HW.out.1.po.first (Same.refl _ _) (Below.refl _ _) HN0.out.next HN0.out.row HN0.out.nodup HN0.out.lt).mono ?_
      rintro e w3 ⟨rfl, N, hled⟩
      have HD := hide hled
      clear hled cw cg
      go_wp2_with fail
      go_meet
      case rel => exact ⟨N, HD.out.next, HD.out.row, HD.out.nodup, HD.out.lt, fun q => by rw [HD.out.mem q]; simp, HD.out.below, HD.out.same⟩
  case rest =>
  obtain ⟨N0, hmid⟩ := hcut
  have henv := HY.out.2.1.same hmid.same
  have cw := henv.cw.cell
  have cg := henv.cg.cell
  obtain ⟨LA, Lc, hfv, hll, hform⟩ := HW.out.2.2.1.form
  clear hform
  rw [List.length_map] at hfv hll
  have hfo : ∀ (wx : World), Same (Keep gi (y.heap.size + 1 + 1 + 1) (y.heap.size + 4)) Y wx → OwnInts B0 wx (.slice LA L.length Lc) (L.map fun q : Nat => (q : Int)) := fun wx hs => by
    rw [← hfv]
    refine (HW.out.2.2.1.below HY.out.1 (Nat.le_refl _)).same hs fun h hh => ⟨?_, HW.out.2.2.2 h hh, ?_⟩
    · have := (World.ownsRow.lt HW.out.2.2.1 h hh).2; omega
    · have := (World.ownsRow.lt HW.out.2.2.1 h hh).2; omega
  have HFO := hide hfo
  rw [hfv] at cg
  have HMD := hide hmid
  clear hmid henv hfo HN0
  go_wp2_with fail
  clear cw cg
  go_loopw [44] (fun kv wr => ∃ (k : Nat) (N : List Nat), kv = .int .i64 k ∧ k ≤ L.length ∧ Mid (fun q => (starts = true ∧ leads p mk bt p.first q = true) ∨ ∃ z ∈ L.take k, leads p mk bt (p.follow.getD z []) q = true) n gi (y.heap.size + 1 + 1 + 1) (y.heap.size + 4) B0 Y wr N) (fun kv _ => L.length - (intOf kv).toNat)
  case atStart => exact ⟨0, N0, rfl, by omega, HMD.out.next, HMD.out.row, HMD.out.nodup, HMD.out.lt, fun q => by rw [HMD.out.mem q]; simp, HMD.out.below, HMD.out.same⟩
  case round =>
    clear HMD
    obtain ⟨k, N, rfl, hk, hmid⟩ := hrel
    have HMD := hide hmid
    clear hmid
    by_cases hlt : k < L.length
    case neg =>
      have g1 : decide ((k : Int) < (L.length : Int)) = false := decide_eq_false (by omega)
      have htake : L.take k = L := List.take_of_length_le (by omega)
      have hmem : ∀ q, q ∈ N ↔ stepB p mk bt starts F q = true := fun q => by
        rw [HMD.out.mem q, htake]
        unfold stepB
        rw [Bool.or_eq_true, Bool.and_eq_true, List.any_eq_true]
        constructor
        · rintro (h | ⟨z, hz, h⟩)
          · exact .inl h
          · exact .inr ⟨z, List.mem_range.2 (by have := HW.out.1.lt z hz; have := HFN.out.2; omega), by rw [(HOK.out.2.2 z).1 hz, h]; rfl⟩
        · rintro (h | ⟨z, _, h⟩)
          · exact .inl h
          · rw [Bool.and_eq_true] at h
            exact .inr ⟨z, (HOK.out.2.2 z).2 h.1, h.2⟩
      have HME := hide hmem
      clear htake hmem
      obtain ⟨nv, hbn, hon⟩ := HMD.out.next
      obtain ⟨NA, Nc, rfl, hnl, _⟩ := hon.form
      have cn := hbn.cell
      rw [List.length_map] at cn hnl
      rw [List.length_map] at hbn hon
      have HNX := hide (And.intro hbn hon)
      clear hbn hon
      go_wp2_with fail
      clear cn
      rename World => W1
      go_loopw [61] (fun jv wx => ∃ j : Nat, jv = .int .i64 j ∧ j ≤ N.length ∧ BoRow wx gi n (fun q => decide (q ∈ N.drop j)) ∧ Same (fun b => b ≠ gi ∧ b < W1.heap.size) W1 wx ∧ Below B0 W1 wx) (fun jv _ => N.length - (intOf jv).toNat)
      case atStart => exact ⟨0, rfl, by omega, HMD.out.row.congr fun i _ => by simp, Same.refl _ _, Below.refl _ _⟩
      case round =>
        obtain ⟨j, rfl, hj, hrow, hsx, hbx⟩ := hrel
        have hS1 : Same (Keep gi (y.heap.size + 1 + 1 + 1) (y.heap.size + 4)) Y wr := HMD.out.same.trans (hsx.mono fun b hb => ⟨hb.2.1, by have := hb.1; have := HMD.out.below.size; have := HY.out.2.2.2; omega⟩)
        have henv := HY.out.2.1.same hS1
        have hbnx := HNX.out.1.same hsx ⟨by omega, by have := HMD.out.below.size; have := HY.out.2.2.2; omega⟩
        have hfz := hrow.frozen
        have cw := henv.cw.cell
        have cg := henv.cg.cell
        by_cases hjl : j < N.length
        case neg =>
          have g2 : decide ((j : Int) < (N.length : Int)) = false := decide_eq_false (by omega)
          have cn := hbnx.cell
          have cgf := henv.cg.frozen
          have hon := HNX.out.2.same hsx (fun h hh => ⟨by have := (World.ownsRow.lt HNX.out.2 h hh).1; omega, (World.ownsRow.lt HNX.out.2 h hh).2⟩)
          have hgl2 : g < y.heap.size + 4 := by omega
          obtain rfl : j = N.length := by omega
          have hb0 : Below B0 y wr := ((HY.out.1.mono hB0).trans HMD.out.below).trans hbx
          have HF := hide (And.intro henv.cg (And.intro hon (And.intro hrow (And.intro hb0 (show Same (fun b => b < y.heap.size ∧ b ≠ g ∧ b ≠ gi) y wr from ((same_of_below HY.out.1).mono fun b hb => hb.1).trans (hS1.mono fun b hb => ⟨by omega, hb.2.2, by omega⟩))))))
          clear henv hon hrow hb0 hbnx hsx hbx hS1 hfz
          go_wp2_with fail
          go_end0
          have hb := HF.out.2.2.2.1.setCell (p := ⟨g, 6, none⟩) (by simpa using hkg0) (.slice NA N.length Nc)
          refine ⟨rfl, N, _, ⟨HW.out.1.po.same (same_of_below hb) (fun b h => h), HW.out.1.sc.same (same_of_below hb) HW.out.1.ksb HW.out.1.ksm, HW.out.1.ksb, HW.out.1.ksm, hkg0, hki0, (HF.out.2.2.1.far (fun e => hgi e.symm) _).congr fun i hi => by simp, HMD.out.nodup, HMD.out.lt, heap_setCell_same wr g 6 _ _ _ HF.out.1, ?_, fun h hh => ?_⟩, HME.out, hb, fun h hh => ?_, HF.out.2.2.2.2.set (fun h => h.2.1 rfl) _⟩
          · refine (HF.out.2.1.low (by omega)).same (ok := fun b => b ≠ g) ((Same.refl _ _).set (fun h => h rfl) _) fun h hh => ?_
            have := (World.ownsRow.lt HF.out.2.1 h hh).1
            omega
          · have := (World.ownsRow.lt HF.out.2.1 h hh).1
            omega
          · have := (World.ownsRow.lt HF.out.2.1 h hh).1
            omega
        have g2 : decide ((j : Int) < (N.length : Int)) = true := decide_eq_true (by omega)
        have hz := List.getElem?_eq_getElem hjl
        have hdr : N.drop j = N[j] :: N.drop (j + 1) := List.drop_eq_getElem_cons hjl
        have hqn := HMD.out.lt _ (List.getElem_mem hjl)
        have hnd := HMD.out.nodup
        have hon := HNX.out.2.same (ok := fun b => b ≠ gi ∧ b < W1.heap.size) hsx (fun h hh => ⟨by have := (World.ownsRow.lt HNX.out.2 h hh).1; omega, (World.ownsRow.lt HNX.out.2 h hh).2⟩)
        generalize N[j] = q at *
        obtain ⟨A2, c2, e2, h9, hcl⟩ := hon.form
        injection e2 with e2 e3 e4
        subst e2
        clear h9 e3 e4
        obtain ⟨gl, eL, _, _, cl⟩ := hcl j (q : Int) (by rw [List.getElem?_map, hz]; rfl)
        subst eL
        have cr := hrow.cell q hqn
        have hnq : q ∉ N.drop (j + 1) := fun h => by
          have h1 := hnd.sublist (List.drop_sublist j N)
          rw [hdr, List.nodup_cons] at h1
          exact h1.1 h
        have HT := hide (And.intro hrow (And.intro hsx (And.intro hbx (And.intro hdr hnq))))
        clear hrow hsx hbx hdr hnq hcl hz hnd henv hbnx hS1 hon
        go_wp2_with fail
        go_roundw
        case rel =>
          refine ⟨j + 1, by go_num, hjl, (HT.out.1.set q false hqn).congr fun i hi => ?_, HT.out.2.1.set (fun h => h.1 rfl) _, HT.out.2.2.1.setCell hki0 _⟩
          rw [HT.out.2.2.2.1]
          by_cases h : i = q
          · subst h
            simp [HT.out.2.2.2.2]
          · simp [h]
        case measure => simp [intOf]; omega
    have g1 : decide ((k : Int) < (L.length : Int)) = true := decide_eq_true (by omega)
    have hz := List.getElem?_eq_getElem hlt
    have htk : L.take (k + 1) = L.take k ++ [L[k]] := by rw [List.take_add_one, hz]; rfl
    have hzn := HW.out.1.lt _ (List.getElem_mem hlt)
    generalize L[k] = z at *
    have hr := List.getElem?_eq_getElem (show z < p.follow.length by rw [HFN.out.1]; exact hzn)
    have hgd : p.follow.getD z [] = p.follow[z]'(by rw [HFN.out.1]; exact hzn) := by rw [List.getD_eq_getElem?_getD, hr]; rfl
    have hmr := List.getElem_mem (l := p.follow) (n := z) (by rw [HFN.out.1]; exact hzn)
    generalize p.follow[z]'(by rw [HFN.out.1]; exact hzn) = r at *
    obtain ⟨bf, of, Br, cr, ef, hbf, cf, hri⟩ := HW.out.1.po.follow.cell hr
    have henv := HY.out.2.1.same HMD.out.same
    have cw := henv.cw.cell
    have cg := henv.cg.cell
    rw [ef, hfv] at cg
    have cfx : wr.cell? ⟨bf, of + z, none⟩ = some (.slice Br r.length cr) := by
      rw [HMD.out.same.cell (a := ⟨bf, of + z, none⟩) (HY.out.2.2.1 bf hbf), (same_of_below (HY.out.1.mono hB0)).cell (a := ⟨bf, of + z, none⟩) hbf]
      exact cf
    obtain ⟨A2, c2, e2, h9, hcl⟩ := (HFO.out wr HMD.out.same).form
    injection e2 with e2 e3 e4
    subst e2
    clear h9 e3 e4
    obtain ⟨gl, eL, _, _, cl⟩ := hcl k (z : Int) (by rw [List.getElem?_map, hz]; rfl)
    subst eL
    have hzl : z < p.follow.length := by rw [HFN.out.1]; exact hzn
    have HR := hide (And.intro htk (And.intro hgd (And.intro hri (And.intro (HOK.out.2.1.follow z r hr) (HOK.out.1.follow r hmr).1))))
    clear htk hgd hri hr hmr hcl hz henv cf
    go_wp2_with fail
    refine (HL.out r Br cr N _ (by rw [← HFN.out.2]; exact HR.out.2.2.2.1) HR.out.2.2.2.2 HR.out.2.2.1 HMD.out.same HMD.out.below HMD.out.next HMD.out.row HMD.out.nodup HMD.out.lt).mono ?_
    rintro e w3 ⟨rfl, N', hled⟩
    have HD := hide hled
    clear hled cw cg cfx cl
    go_wp2_with fail
    go_roundw
    case rel =>
      refine ⟨k + 1, N', by go_num, hlt, HD.out.next, HD.out.row, HD.out.nodup, HD.out.lt, fun q => ?_, HMD.out.below.trans HD.out.below, HMD.out.same.trans HD.out.same⟩
      rw [HD.out.mem q, HMD.out.mem q, HR.out.1]
      constructor
      · rintro ((h | ⟨z2, hz2, h⟩) | h)
        · exact .inl h
        · exact .inr ⟨z2, List.mem_append.2 (.inl hz2), h⟩
        · exact .inr ⟨z, List.mem_append.2 (.inr (by simp)), by rw [HR.out.2.1]; exact h⟩
      · rintro (h | ⟨z2, hz2, h⟩)
        · exact .inl (.inl h)
        · rcases List.mem_append.1 hz2 with h3 | h3
          · exact .inl (.inr ⟨z2, h3, h⟩)
          · obtain rfl : z2 = z := by simpa using h3
            rw [HR.out.2.1] at h
            exact .inr h
    case measure => simp [intOf]; omega
end Go.Proofs.YtlomjepemnlliaaDoor

/-! ## Ends18 -/
namespace Go.Proofs.YtlomjepemnlliaaDoor
open Go.RowKit

/-- Does a piece end at marks m, F the front (and, at a start, the empty piece)? -/
def endsB (p : Po) (m : Nat) (starts : Bool) (F : Nat → Bool) : Bool := (starts && p.null.toNat.testBit m) || p.last.any fun e => F e.1.toNat && e.2.toNat.testBit m

/-- What a map of edges holds. -/
def edgeMap (l : List Ed) : Int → Int := l.foldl (fun f e z => if z = e.1 then e.2 else f z) (fun _ => 0)
theorem edgeMap_snoc (l : List Ed) (e : Ed) : edgeMap (l ++ [e]) = fun z => if z = e.1 then e.2 else edgeMap l z := by
  unfold edgeMap
  rw [List.foldl_append]
  rfl
theorem edgeMap_some : ∀ (n : Nat) (l : List Ed), l.length = n → ∀ z, (∃ e ∈ l, e.1 = z ∧ edgeMap l z = e.2) ∨ ((∀ e ∈ l, e.1 ≠ z) ∧ edgeMap l z = 0)
  | 0, l, h, z => by
    rw [List.eq_nil_of_length_eq_zero h]
    exact .inr ⟨by simp, rfl⟩
  | n + 1, l, h, z => by
    obtain ⟨l', e, rfl⟩ : ∃ l' e, l = l' ++ [e] := ⟨l.dropLast, l.getLast (by intro e; rw [e] at h; simp at h), (List.dropLast_concat_getLast _).symm⟩
    rw [edgeMap_snoc]
    by_cases hz : z = e.1
    · exact .inl ⟨e, by simp, hz.symm, by simp [hz]⟩
    · rcases edgeMap_some n l' (by simpa using h) z with ⟨f, h1, h2, h3⟩ | ⟨h1, h2⟩
      · exact .inl ⟨f, by simp [h1], h2, by simp [hz, h3]⟩
      · refine .inr ⟨fun f hf => ?_, by simp [hz, h2]⟩
        rcases List.mem_append.1 hf with h4 | h4
        · exact h1 f h4
        · obtain rfl : f = e := by simpa using h4
          exact fun e => hz e.symm

theorem EdOk.ge {n : Int} {l : List Ed} (h : EdOk n l) : ∀ (i : Nat) (e : Ed), l[i]? = some e → (i : Int) ≤ e.1
  | 0, e, hi => (h.at_ hi).1
  | i + 1, e, hi => by
    have hl := (List.getElem?_eq_some_iff.1 hi).1
    have hd := List.getElem?_eq_getElem (show i < l.length by omega)
    have h1 := EdOk.ge h i _ hd
    have h2 := (h.at_ hi).2.2.2.2 _ (by omega) hd
    omega
theorem EdOk.lt {n : Int} {l : List Ed} (h : EdOk n l) : ∀ (d i : Nat) (e f : Ed), l[i]? = some e → l[i + d + 1]? = some f → e.1 < f.1
  | 0, i, e, f, hi, hf => (h.at_ hf).2.2.2.2 e (by omega) hi
  | d + 1, i, e, f, hi, hf => by
    have hl := (List.getElem?_eq_some_iff.1 hf).1
    have hd := List.getElem?_eq_getElem (show i + d + 1 < l.length by omega)
    have h1 := EdOk.lt h d i e _ hi hd
    have h2 := (h.at_ hf).2.2.2.2 _ (by omega) hd
    omega
theorem EdOk.len {n : Nat} {l : List Ed} (h : EdOk n l) : l.length ≤ n := by
  rcases Nat.eq_zero_or_pos l.length with h0 | h0
  · omega
  · have hd := List.getElem?_eq_getElem (show l.length - 1 < l.length by omega)
    have h1 := h.ge _ _ hd
    have h2 := (h.at_ hd).2.1
    omega
theorem EdOk.uniq {n : Int} {l : List Ed} (h : EdOk n l) {e f : Ed} (he : e ∈ l) (hf : f ∈ l) (heq : e.1 = f.1) : e = f := by
  obtain ⟨i, hi, rfl⟩ := List.getElem_of_mem he
  obtain ⟨j, hj, rfl⟩ := List.getElem_of_mem hf
  have h1 := List.getElem?_eq_getElem hi
  have h2 := List.getElem?_eq_getElem hj
  rcases Nat.lt_trichotomy i j with hij | hij | hij
  · have := h.lt (j - i - 1) i _ _ h1 (by rw [show i + (j - i - 1) + 1 = j by omega]; exact h2)
    omega
  · subst hij; rfl
  · have := h.lt (i - j - 1) j _ _ h2 (by rw [show j + (i - j - 1) + 1 = i by omega]; exact h1)
    omega
theorem edgeMap_bit {n : Int} {l : List Ed} (h : EdOk n l) (q m : Nat) : (∃ v : Nat, edgeMap l q = v ∧ v < 16 ∧ (v.testBit m = true ↔ ∃ e ∈ l, e.1 = (q : Int) ∧ e.2.toNat.testBit m = true)) := by
  rcases edgeMap_some _ l rfl q with ⟨e, h1, h2, h3⟩ | ⟨h1, h2⟩
  · obtain ⟨i, hi, ei⟩ := List.getElem_of_mem h1
    have hb := h.at_ (k := i) (e := e) (by rw [List.getElem?_eq_getElem hi, ei])
    refine ⟨e.2.toNat, by rw [h3]; omega, by omega, fun hb => ⟨e, h1, h2, hb⟩, ?_⟩
    rintro ⟨f, f1, f2, f3⟩
    rw [h.uniq h1 f1 (by rw [h2, f2])]
    exact f3
  · refine ⟨0, h2, by omega, fun hb => by simp at hb, ?_⟩
    rintro ⟨f, f1, f2, f3⟩
    exact absurd f2 (h1 f f1)

set_option maxRecDepth 100000 in
set_option maxHeartbeats 4000000 in
theorem ends18_any (p : Po) (pa : PoA) (x : Sc) (sb sm n g gi B0 : Nat) (L : List Nat) (fv : Value) (y : World) (i : Nat) (starts : Bool) (hi : i ≤ x.len) (hn : p.sets.length = n) (hn6 : n < 1000000) (hwf : p.wf) (hok : p.Ok) (hW : WkAt p pa x sb sm n g gi B0 L fv y) (hB0 : B0 ≤ y.heap.size) (F : Nat → Bool) (hF : ∀ q, q ∈ L ↔ F q = true) :
    Calls Tryd.prog 46 #[.pointer (some ⟨g, 0, none⟩), .int .i64 i, .bool starts] y fun e y' => e = .returned (.bool (endsB p (x.mark i) starts F)) ∧ Below y.heap.size y y' := by
  have hmm := @run_makeMap Tryd.prog
  obtain ⟨As, Af, Al, Aw, ks, kf, kl, kw⟩ := pa
  have hbox := hW.box
  have hfr := hW.own
  have hfne := hW.ne
  have hm4 : x.mark i < 4 := hW.sc.small i
  have hfit := hW.sc.fits
  have HM := hide (marks_in hW.sc i hi)
  obtain ⟨LA, Lc, rfl, hll, hform⟩ := hfr.form
  rw [List.length_map] at hbox hll
  simp only at hbox
  have hfrm : ∀ (k q : Nat), L[k]? = some q → ∃ g, LA = some ⟨g, 0, none⟩ ∧ g < y.heap.size ∧ y.cell? ⟨g, k, none⟩ = some (.int .i64 (q : Int)) := fun k q hk => by
    obtain ⟨g, h1, _, h3, h4⟩ := hform k (q : Int) (by rw [List.getElem?_map, hk]; rfl)
    exact ⟨g, h1, h3, h4⟩
  have HFR := hide hfrm
  have hlast : EdIn (· < B0) y p.last Al := hW.po.last
  have HLA := hide (And.intro hok.last (And.intro hwf hlast))
  have hnl := hwf.nl
  have hl6 : p.last.length < 1000000 := by have := hok.last.len; omega
  obtain ⟨nu, hnu⟩ : ∃ nu : Nat, p.null = nu := ⟨p.null.toNat, by have := hok.low; omega⟩
  have hnu16 : nu < 16 := by have := hok.high; omega
  have cg := hbox.cell
  have HBX := hide hbox
  have hgl := hbox.lt
  generalize hmk : x.mark i = mk at *
  have HRES := hide (show endsB p mk starts F = ((starts && nu.testBit mk) || p.last.any fun e => F e.1.toNat && e.2.toNat.testBit mk) from by unfold endsB; rw [hnu]; rfl)
  have HOPn := hide (fun y => open_any nu mk hnu16 hm4 y)
  have HOP := hide (fun v (hv : v < 16) y => open_any v mk hv hm4 y)
  have HLF := hide hF
  generalize hres : endsB p mk starts F = res at *
  have hltn := hW.lt
  have HLT := hide hltn
  rw [hnu] at cg
  clear hW hform hfr hbox hwf hok hF hfrm hlast hmk hres hnu hltn
  go_enter Tryd.func46, Tryd.ntmps46
  go_wp2_with fail
  refine HM.out.mono ?_
  rintro e w1 ⟨rfl, rfl⟩
  go_upto_region 2 with fail
  go_cut [28] (fun z wx => z = .bool (starts && nu.testBit mk) ∧ wx = y)
  case first =>
    cases starts with
    | false =>
      go_wp2_with fail
      go_meet
      case rel => exact ⟨rfl, rfl⟩
    | true =>
      go_wp2_with fail
      refine (HOPn.out _).mono ?_
      rintro e w1 ⟨rfl, rfl⟩
      go_wp2_with fail
      go_meet
      case rel => exact ⟨by simp, rfl⟩
  case rest =>
  obtain ⟨rfl, hwc⟩ := hcut
  replace hwc := hwc.symm
  subst hwc
  clear HM HOPn
  cases hno : (starts && nu.testBit mk) with
  | true =>
    rw [hno] at HRES
    have hr : res = true := by rw [HRES.out]; rfl
    have HR := hide hr
    clear hr hno
    go_wp2_with fail
    go_ret
    exact ⟨by rw [HR.out]; rfl, Below.refl _ _⟩
  | false =>
  rw [hno, Bool.false_or] at HRES
  clear hno
  have hres : res = true ↔ ∃ e ∈ p.last, F e.1.toNat = true ∧ e.2.toNat.testBit mk = true := by
    rw [HRES.out, List.any_eq_true]
    constructor
    · rintro ⟨e, h1, h2⟩; rw [Bool.and_eq_true] at h2; exact ⟨e, h1, h2⟩
    · rintro ⟨e, h1, h2⟩; exact ⟨e, h1, by rw [Bool.and_eq_true]; exact h2⟩
  have HRS := hide hres
  have HMP := hide (IntMap.made y)
  have hbel := (Below.refl y.heap.size y).alloc (Nat.le_refl _) (.map #[] 0)
  have cg2 := (HBX.out.nxt hbel).cell
  have HBE := hide hbel
  clear hres hbel HRES
  go_wp2_with fail
  clear cg cg2
  go_loopw [36] (fun kv wr => ∃ k : Nat, kv = .int .i64 k ∧ k ≤ p.last.length ∧ IntMap wr y.heap.size k (edgeMap (p.last.take k)) ∧ Below y.heap.size y wr) (fun kv _ => p.last.length - (intOf kv).toNat)
  case atStart => exact ⟨0, rfl, by omega, HMP.out, HBE.out⟩
  case round =>
    clear HMP HBE
    obtain ⟨k, rfl, hk, hmap, hbel⟩ := hrel
    by_cases hlt : k < p.last.length
    case neg =>
      have g1 : decide ((k : Int) < (p.last.length : Int)) = false := decide_eq_false (by omega)
      obtain rfl : k = p.last.length := by omega
      rw [List.take_length] at hmap
      have cg := (HBX.out.nxt hbel).cell
      have HM1 := hide hmap
      have HB1 := hide hbel
      clear hmap hbel
      go_wp2_with fail
      clear cg
      rename World => W1
      go_loopw [51] (fun kv wr => ∃ k : Nat, kv = .int .i64 k ∧ k ≤ L.length ∧ (∀ q ∈ L.take k, ¬ ∃ e ∈ p.last, e.1 = (q : Int) ∧ e.2.toNat.testBit mk = true) ∧ wr = W1) (fun kv _ => L.length - (intOf kv).toNat)
      case atStart => exact ⟨0, rfl, by omega, by simp, rfl⟩
      case round =>
        obtain ⟨k, rfl, hk, hnone, hwr⟩ := hrel
        subst hwr
        by_cases hlt : k < L.length
        case neg =>
          have g2 : decide ((k : Int) < (L.length : Int)) = false := decide_eq_false (by omega)
          have hr : res = false := by
            cases hrr : res with
            | false => rfl
            | true =>
              obtain ⟨e, h1, h2, h3⟩ := HRS.out.1 hrr
              obtain ⟨i, hi, ei⟩ := List.getElem_of_mem h1
              have h4 := (HLA.out.1.at_ (k := i) (e := e) (by rw [List.getElem?_eq_getElem hi, ei])).1
              have h5 := (HLF.out e.1.toNat).2 h2
              rw [List.take_of_length_le (by omega)] at hnone
              exact absurd ⟨e, h1, by omega, h3⟩ (hnone _ h5)
          have HR := hide hr
          clear hr hnone
          go_wp2_with fail
          go_ret
          exact ⟨by rw [HR.out]; rfl, HB1.out⟩
        have g2 : decide ((k : Int) < (L.length : Int)) = true := decide_eq_true (by omega)
        have hz := List.getElem?_eq_getElem hlt
        have htk : L.take (k + 1) = L.take k ++ [L[k]] := by rw [List.take_add_one, hz]; rfl
        have hqm := List.getElem_mem hlt
        have hqn := HLT.out _ hqm
        generalize L[k] = q at *
        obtain ⟨gl, rfl, hgl2, cl⟩ := HFR.out k q hz
        obtain ⟨v, hv, hv16, hvb⟩ := edgeMap_bit HLA.out.1 q mk
        have cl2 := (HB1.out.cell (p := ⟨gl, k, none⟩) hgl2).trans cl
        have HQ := hide (And.intro htk (And.intro hqm (And.intro hvb hnone)))
        have HV := hide hv
        clear htk hqm hvb hnone hz cl hv
        go_wp2_with (refine wpList_map_get rfl _ _ rfl y.heap.size _ _ (q : Int) rfl rfl HM1.out ⟨by omega, by omega⟩ ?_)
        rw [HV.out]
        try simp only [Act.put, List.setIfInBounds_toArray, List.set_cons_succ, List.set_cons_zero]
        go_wp2_with fail
        refine (HOP.out v hv16 _).mono ?_
        rintro e w1 ⟨rfl, rfl⟩
        cases hb : v.testBit mk with
        | true =>
          rw [hb] at HQ
          have hr : res = true := by
            obtain ⟨e, h1, h2, h3⟩ := HQ.out.2.2.1.1 rfl
            exact HRS.out.2 ⟨e, h1, by rw [h2]; exact (HLF.out q).1 HQ.out.2.1, h3⟩
          have HR := hide hr
          clear hr hb
          go_wp2_with fail
          go_ret
          exact ⟨by rw [HR.out]; rfl, HB1.out⟩
        | false =>
          rw [hb] at HQ
          clear hb
          go_wp2_with fail
          go_roundw
          case rel =>
            refine ⟨k + 1, by go_num, hlt, fun z hz => ?_, trivial⟩
            rw [HQ.out.1] at hz
            rcases List.mem_append.1 hz with h | h
            · exact HQ.out.2.2.2 z h
            · obtain rfl : z = q := by simpa using h
              exact fun h9 => by have := HQ.out.2.2.1.2 h9; cases this
          case measure => simp [intOf]; omega
    have g1 : decide ((k : Int) < (p.last.length : Int)) = true := decide_eq_true (by omega)
    have he := List.getElem?_eq_getElem hlt
    have htk : p.last.take (k + 1) = p.last.take k ++ [p.last[k]] := by rw [List.take_add_one, he]; rfl
    generalize p.last[k] = e at *
    obtain ⟨be, oe, rfl, hbe, c0, c1⟩ := HLA.out.2.2.cell he
    obtain ⟨v0, v1, v2, v3, _⟩ := HLA.out.1.at_ he
    obtain ⟨e1, e2⟩ := e
    simp only at c0 c1 v0 v1 v2 v3
    replace c0 := (hbel.cell (p := ⟨be, oe + k * 2, none⟩) (by simp only; omega)).trans c0
    replace c1 := (hbel.cell (p := ⟨be, oe + k * 2 + 1, none⟩) (by simp only; omega)).trans c1
    have hz := hide (Blk.new wr 73 #[.int .i64 0, .int .i64 0])
    have HT := hide htk
    clear htk he
    go_wp2_with (refine wpList_store_row rfl _ _ _ rfl wr.heap.size 0 _ _ _ rfl rfl hz.out Tryd.sizeEdge (by simp) (by simp [Value.oneCell']) ?_)
    intro w2 hrow2 hg2 hz2
    have hrow := hrow2.out
    rw [splice_full (by rfl)] at hrow
    have hb2 : Below wr.heap.size wr w2 := below_grew ((Below.refl wr.heap.size wr).alloc (Nat.le_refl _) _) hg2 (Nat.le_refl _) (fun g hg => by injection hg with hg; omega)
    have ce := hrow.cell
    have HM2 := hide (hmap.next hb2)
    have HB2 := hide (hbel.trans (hb2.mono hbel.size))
    clear hrow2 hg2 hz2 hz c0 c1 hrow hb2 hmap hbel
    generalize wr.heap.size = ge at *
    go_wp2_with (refine wpList_map_put rfl _ _ _ rfl y.heap.size k _ e1 e2 rfl rfl rfl HM2.out (by omega) ⟨by omega, by omega⟩ ⟨by omega, by omega⟩ ?_)
    intro w3 hm3 hg3
    have HB3 := hide (below_grew HB2.out hg3 (Nat.le_refl _) (fun g hg => by injection hg with hg; omega))
    have HM3 := hide hm3
    clear hm3 hg3 ce
    try simp only [Act.put, List.setIfInBounds_toArray, List.set_cons_succ, List.set_cons_zero]
    go_wp2_with fail
    go_roundw
    case rel => exact ⟨k + 1, by go_num, hlt, by rw [HT.out, edgeMap_snoc]; exact HM3.out, HB3.out⟩
    case measure => simp [intOf]; omega
end Go.Proofs.YtlomjepemnlliaaDoor

/-! ## Walk18 -/
/-! ## Asked18 -/
namespace Go.Proofs.YtlomjepemnlliaaDoor
open Go.RowKit

/-- The error of a call. -/
def Asked18 (p : Po) (x : Sc) (a : Int) (g : Option Nat) : Prop :=
  (g = some 12 ∧ ¬ p.Ok) ∨ (g = some 14 ∧ p.Ok ∧ (a < 0 ∨ (x.len : Int) < a)) ∨ (g = none ∧ p.Ok ∧ 0 ≤ a ∧ a ≤ x.len)
theorem Asked18.eq {p : Po} {x : Sc} {a : Int} {g h : Option Nat} (h1 : Asked18 p x a g) (h2 : Asked18 p x a h) : g = h := by
  rcases h1 with ⟨rfl, a1⟩ | ⟨rfl, a1, a2⟩ | ⟨rfl, a1, a2, a3⟩ <;> rcases h2 with ⟨rfl, b1⟩ | ⟨rfl, b1, b2⟩ | ⟨rfl, b1, b2, b3⟩ <;> first | rfl | exact absurd a1 b1 | exact absurd b1 a1 | omega

/-- What asked answers. -/
def Asked18A (p : Po) (pa : PoA) (x : Sc) (sb sm : Nat) (q : Int) (a : Nat → Addr) (w : World) (e : Ending) (w' : World) : Prop :=
  ∃ g : Option Nat, Asked18 p x q g ∧ Below w.heap.size w w' ∧ (g ≠ none → e = .returned (.tuple #[.pointer none, walkErr a g])) ∧ (g = none → ∃ b gi, e = .returned (.tuple #[.pointer (some ⟨b, 0, none⟩), .nilIface]) ∧ WkAt p pa x sb sm p.sets.length b gi w.heap.size [] (.slice none 0 0) w')

set_option maxRecDepth 100000 in
set_option maxHeartbeats 4000000 in
theorem asked18_any (p : Po) (pa : PoA) (x : Sc) (sb sm : Nat) (q : Int) (a : Nat → Addr) (w : World) (hwf : p.wf) (hin : PoIn (· < w.heap.size) w p pa) (hsc : Scn w sb sm x) (hE : Sent [12, 14] w a) (hq : IsI64 q) (hn6 : p.Ok → p.sets.length ≤ 1000000) :
    Calls Tryd.prog 44 #[.agg (p.cells pa).toArray, .pointer (some ⟨sb, 0, none⟩), .int .i64 q] w (Asked18A p pa x sb sm q a w) := by
  have hne := fun y ad => run_neq_iface_nil (P := Tryd.prog) (w := y) 37 (by kernel_rfl) 161 (.pointer (some ad))
  have hnn := fun y => run_neq_nil_nil_at (P := Tryd.prog) (w := y) 37 (by kernel_rfl)
  have HC := hide (fun y (hy : Below w.heap.size w y) => posCheck_any p pa y a hwf (hin.next hy) ((hE.below hy).mono (by decide)))
  have HE := hide (fun y (hy : Below w.heap.size w y) => (hE.below hy) 14 (by decide))
  have HS := hide hsc
  have hfit := hsc.fits
  obtain ⟨q1, q2⟩ := hq
  have HPI := hide hin
  clear hwf hin hE hsc
  obtain ⟨As, Af, Al, Aw, ks, kf, kl, kw⟩ := pa
  simp only [Po.cells] at HC ⊢
  have hbp := Blk.new w 26 #[.slice As p.sets.length ks, .int .i64 p.null, .slice Af p.first.length kf, .slice Al p.last.length kl, .slice Aw p.follow.length kw]
  have hbel := (Below.refl w.heap.size w).alloc (Nat.le_refl _) (.cells #[.slice As p.sets.length ks, .int .i64 p.null, .slice Af p.first.length kf, .slice Al p.last.length kl, .slice Aw p.follow.length kw] 26)
  go_enter Tryd.func44, Tryd.ntmps44
  go_wp2_with fail
  refine (HC.out _ hbel).mono ?_
  rintro e w1 ⟨g, rfl, hg, hgt, hb⟩
  have HB := hide (And.intro (hbel.trans (hb.mono hbel.size)) (hbp.nxt hb))
  clear hb hbel hbp HC
  rcases hgt with rfl | rfl
  case inr =>
    simp only [walkErr, errV]
    go_wp2_with fail
    go_ret2
    exact ⟨some 12, .inl ⟨rfl, fun h => by have := hg.2 h; cases this⟩, HB.out.1, fun _ => rfl, fun h => by cases h⟩
  have HOk := hide (hg.1 rfl)
  have hn6' := hn6 HOk.out
  have hmk := fun W => run_bo (ts := 70) Tryd.underlying70 p.sets.length (by omega) W
  clear hg
  simp only [walkErr]
  by_cases h0 : q < 0
  · have d0 : decide (q < 0) = true := decide_eq_true h0
    have hv := HE.out _ HB.out.1
    simp only [errV] at hv
    go_upto_region 5 with fail
    go_quiet (fail)
    go_wp2_with fail
    go_ret2
    exact ⟨some 14, .inr (.inl ⟨rfl, HOk.out, .inl h0⟩), below_drewN HB.out.1 _, fun _ => rfl, fun h => by cases h⟩
  have d0 : decide (q < 0) = false := decide_eq_false h0
  have HLen := hide (slen_any (HS.out.below HB.out.1))
  by_cases h1 : (x.len : Int) < q
  · have d1 : decide ((x.len : Int) < q) = true := decide_eq_true h1
    have hv := HE.out _ HB.out.1
    simp only [errV] at hv
    go_wp2_with fail
    refine HLen.out.mono ?_
    rintro e w2 ⟨rfl, rfl⟩
    go_upto_region 5 with fail
    go_quiet (fail)
    go_wp2_with fail
    go_ret2
    exact ⟨some 14, .inr (.inl ⟨rfl, HOk.out, .inr h1⟩), below_drewN HB.out.1 _, fun _ => rfl, fun h => by cases h⟩
  have d1 : decide ((x.len : Int) < q) = false := decide_eq_false h1
  go_wp2_with fail
  refine HLen.out.mono ?_
  rintro e w2 ⟨rfl, rfl⟩
  go_upto_region 6 with fail
  refine wp_region_mix (fun y => Below w1.heap.size w1 y) [7] (by kernel_rfl) (fun hcl => ?_)
  have hS : Below w1.heap.size w1 w1.drew := (Below.refl _ _).drew
  refine wpAnyT_take (i := 0) hcl rfl (by kernel_rfl) (v := ?_) (fun _ _ _ h => h) hS (Or.inl ⟨rfl, fun w' hS => ?_⟩) (fun hcl => ?_)
  rotate_left
  · skip
    have cx := (HB.out.2.below hS HB.out.2.lt).cell
    go_simp
    with_reducible rfl
  simp only [List.getElem_toArray, List.getElem_cons_zero, List.getElem_cons_succ, Act.put, List.setIfInBounds_toArray, List.set_cons_zero, List.set_cons_succ]
  refine wpAnyT_free (i := 1) hcl rfl (by kernel_rfl) (v := ?_) (fun _ _ _ h => h) hS (Or.inl ⟨rfl, fun w' _ => ?_⟩) (fun hcl => ?_)
  rotate_left
  · go_simp
    with_reducible rfl
  simp only [List.getElem_toArray, List.getElem_cons_zero, List.getElem_cons_succ, Act.put, List.setIfInBounds_toArray, List.set_cons_zero, List.set_cons_succ]
  refine wpAnyT_free (i := 2) hcl rfl (by kernel_rfl) (v := ?_) (fun _ _ _ h => h) hS (Or.inl ⟨rfl, fun w' _ => ?_⟩) (fun hcl => ?_)
  rotate_left
  · go_simp
    with_reducible rfl
  simp only [List.getElem_toArray, List.getElem_cons_zero, List.getElem_cons_succ, Act.put, List.setIfInBounds_toArray, List.set_cons_zero, List.set_cons_succ]
  refine wpAnyT_take (i := 3) hcl rfl (by kernel_rfl) (v := ?_) (fun _ _ _ h => h) hS (Or.inl ⟨rfl, fun w' hS => ?_⟩) (fun hcl => ?_)
  rotate_left
  · skip
    have cx := (HB.out.2.below hS HB.out.2.lt).cell
    go_simp
    with_reducible rfl
  simp only [List.getElem_toArray, List.getElem_cons_zero, List.getElem_cons_succ, Act.put, List.setIfInBounds_toArray, List.set_cons_zero, List.set_cons_succ]
  refine wpAnyT_free (i := 4) hcl rfl (by kernel_rfl) (v := ?_) (fun _ _ _ h => h) hS (Or.inl ⟨rfl, fun w' _ => ?_⟩) (fun hcl => ?_)
  rotate_left
  · go_simp
    with_reducible rfl
  simp only [List.getElem_toArray, List.getElem_cons_zero, List.getElem_cons_succ, Act.put, List.setIfInBounds_toArray, List.set_cons_zero, List.set_cons_succ]
  refine wpAnyT_step (i := 5) hcl rfl (by kernel_rfl) (fun hcl => ?_)
  simp only [List.getElem_toArray, List.getElem_cons_zero, List.getElem_cons_succ, Act.put, List.setIfInBounds_toArray, List.set_cons_zero, List.set_cons_succ]
  go_wp2_with fail
  replace hS : Below w1.heap.size w1 (w1.alloc (.cells (madeCells #[.bool false] p.sets.length) 4)).drew := ((Below.refl _ _).alloc (Nat.le_refl _) _).drew
  refine ⟨hS, ?_⟩
  refine wpAnyT_free (i := 6) hcl rfl (by kernel_rfl) (v := ?_) (fun _ _ _ h => h) hS (Or.inl ⟨rfl, fun w' _ => ?_⟩) (fun hcl => ?_)
  rotate_left
  · go_simp
    with_reducible rfl
  simp only [List.getElem_toArray, List.getElem_cons_zero, List.getElem_cons_succ, Act.put, List.setIfInBounds_toArray, List.set_cons_zero, List.set_cons_succ]
  refine wpAnyT_last (i := 7) hcl rfl (by kernel_rfl) (by kernel_rfl) (fun hcl => ?_)
  simp only [List.getElem_toArray, List.getElem_cons_zero, List.getElem_cons_succ, Act.put, List.setIfInBounds_toArray, List.set_cons_zero, List.set_cons_succ]
  go_wp2_with fail
  refine wpAnyT_last (i := 8) hcl rfl (by kernel_rfl) (by kernel_rfl) (fun hcl => ?_)
  simp only [List.getElem_toArray, List.getElem_cons_zero, List.getElem_cons_succ, Act.put, List.setIfInBounds_toArray, List.set_cons_zero, List.set_cons_succ]
  go_wp2_with fail
  refine wpAnyT_last (i := 9) hcl rfl (by kernel_rfl) (by kernel_rfl) (fun hcl => ?_)
  simp only [List.getElem_toArray, List.getElem_cons_zero, List.getElem_cons_succ, Act.put, List.setIfInBounds_toArray, List.set_cons_zero, List.set_cons_succ]
  go_wp2_with fail
  refine wpAnyT_done (by kernel_rfl) ?_ _
  go_wp2_with fail
  go_ret2
  have hw1 := HB.out.1.size
  have hw2 := HB.out.2.lt
  have hbx := Blk.new (w1.alloc (.cells (madeCells #[.bool false] p.sets.length) 4)) 89 #[.slice As p.sets.length ks, .int .i64 p.null, .slice Af p.first.length kf, .slice Al p.last.length kl, .slice Aw p.follow.length kw, .pointer (some ⟨sb, 0, none⟩), .slice none 0 0, .slice (some ⟨w1.heap.size, 0, none⟩) p.sets.length p.sets.length]
  rw [World.size_alloc] at hbx
  have hrow := BoRow.new w1 p.sets.length
  have hb1 := (Below.refl w1.heap.size w1).alloc (Nat.le_refl _) (.cells (madeCells #[.bool false] p.sets.length) 4)
  have hb2 := ((Below.refl (w1.alloc (.cells (madeCells #[.bool false] p.sets.length) 4)).heap.size (w1.alloc (.cells (madeCells #[.bool false] p.sets.length) 4))).alloc (Nat.le_refl _) (.cells #[.slice As p.sets.length ks, .int .i64 p.null, .slice Af p.first.length kf, .slice Al p.last.length kl, .slice Aw p.follow.length kw, .pointer (some ⟨sb, 0, none⟩), .slice none 0 0, .slice (some ⟨w1.heap.size, 0, none⟩) p.sets.length p.sets.length] 89)).drew
  have hbz := (Below.refl ((w1.alloc (.cells (madeCells #[.bool false] p.sets.length) 4)).alloc (.cells #[.slice As p.sets.length ks, .int .i64 p.null, .slice Af p.first.length kf, .slice Al p.last.length kl, .slice Aw p.follow.length kw, .pointer (some ⟨sb, 0, none⟩), .slice none 0 0, .slice (some ⟨w1.heap.size, 0, none⟩) p.sets.length p.sets.length] 89)).heap.size ((w1.alloc (.cells (madeCells #[.bool false] p.sets.length) 4)).alloc (.cells #[.slice As p.sets.length ks, .int .i64 p.null, .slice Af p.first.length kf, .slice Al p.last.length kl, .slice Aw p.follow.length kw, .pointer (some ⟨sb, 0, none⟩), .slice none 0 0, .slice (some ⟨w1.heap.size, 0, none⟩) p.sets.length p.sets.length] 89))).drew
  replace hbx := hbx.nxt hbz
  replace hrow := hrow.next hb2
  have hbA := HB.out.1.trans ((hb1.trans (hb2.mono hb1.size)).mono hw1)
  refine ⟨none, .inr (.inr ⟨rfl, HOk.out, by omega, by omega⟩), hbA, fun h => absurd rfl h, fun _ => ⟨w1.heap.size + 1, w1.heap.size, rfl, ⟨HPI.out.same (same_of_below hbA) (fun b h => h), HS.out.same (same_of_below hbA) HS.out.box.lt HS.out.row.lt, HS.out.box.lt, HS.out.row.lt, by omega, by omega, hrow, List.nodup_nil, by simp, hbx, OwnInts.nil _ _, fun h hh => by cases hh⟩⟩⟩
end Go.Proofs.YtlomjepemnlliaaDoor

/-! ## Run18 -/
namespace Go.Proofs.YtlomjepemnlliaaDoor
open Go.RowKit

def byteB (x : Sc) (i : Nat) : Nat := (x.text.data.toList.getD i 0).toNat
/-- The front behind d bytes from place a on; st tells at which of them a piece may begin. -/
def frontB (p : Po) (x : Sc) (a : Nat) (st : Nat → Bool) : Nat → Nat → Bool
  | 0 => fun _ => false
  | d + 1 => stepB p (x.mark (a + d)) (byteB x (a + d)) (st d) (frontB p x a st d)
/-- Does a piece end behind d bytes? -/
def endAt (p : Po) (x : Sc) (a : Nat) (st : Nat → Bool) (d : Nat) : Bool := endsB p (x.mark (a + d)) (st d) (frontB p x a st d)
/-- The ends in the first k places. -/
def endsUpto (p : Po) (x : Sc) (a : Nat) (st : Nat → Bool) (k : Nat) : List Int := ((List.range k).filter (endAt p x a st)).map fun d => ((a + d : Nat) : Int)
/-- A piece begins at the first place alone. -/
def st0 (d : Nat) : Bool := d == 0
def endList (p : Po) (x : Sc) (a : Nat) : List Int := endsUpto p x a st0 (x.len + 1 - a)

theorem endsUpto_succ (p : Po) (x : Sc) (a : Nat) (st : Nat → Bool) (k : Nat) : endsUpto p x a st (k + 1) = endsUpto p x a st k ++ if endAt p x a st k = true then [((a + k : Nat) : Int)] else [] := by
  unfold endsUpto
  rw [List.range_succ, List.filter_append, List.map_append]
  cases h : endAt p x a st k <;> simp [h]
theorem endsUpto_len (p : Po) (x : Sc) (a : Nat) (st : Nat → Bool) (k : Nat) : (endsUpto p x a st k).length ≤ k := by
  unfold endsUpto
  rw [List.length_map]
  have := List.length_filter_le (endAt p x a st) (List.range k)
  simpa using this
theorem stepB_none {p : Po} {m b : Nat} {F : Nat → Bool} (h : ∀ q, F q = false) (q : Nat) : stepB p m b false F q = false := by
  unfold stepB
  rw [Bool.false_and, Bool.false_or]
  cases hh : (List.range p.sets.length).any fun k => F k && leads p m b (p.follow.getD k []) q with
  | false => rfl
  | true =>
    rw [List.any_eq_true] at hh
    obtain ⟨k, _, h2⟩ := hh
    rw [h k] at h2
    cases h2
theorem endsB_none {p : Po} {m : Nat} {F : Nat → Bool} (h : ∀ q, F q = false) : endsB p m false F = false := by
  unfold endsB
  rw [Bool.false_and, Bool.false_or]
  cases hh : p.last.any fun e => F e.1.toNat && e.2.toNat.testBit m with
  | false => rfl
  | true =>
    rw [List.any_eq_true] at hh
    obtain ⟨k, _, h2⟩ := hh
    rw [h _] at h2
    cases h2
theorem frontB_stop {p : Po} {x : Sc} {a : Nat} {st : Nat → Bool} {k : Nat} (h : ∀ q, frontB p x a st k q = false) (hs : ∀ d, k ≤ d → st d = false) : ∀ j q, frontB p x a st (k + j) q = false
  | 0, q => h q
  | j + 1, q => by
    rw [← Nat.add_assoc, frontB, hs (k + j) (by omega)]
    exact stepB_none (frontB_stop h hs j) q
theorem endsUpto_stop {p : Po} {x : Sc} {a : Nat} {st : Nat → Bool} {k : Nat} (h : ∀ q, frontB p x a st k q = false) (hs : ∀ d, k ≤ d → st d = false) : ∀ j, endsUpto p x a st (k + j) = endsUpto p x a st k
  | 0 => rfl
  | j + 1 => by
    have he : endAt p x a st (k + j) = false := by
      unfold endAt
      rw [hs (k + j) (by omega)]
      exact endsB_none (frontB_stop h hs j)
    rw [← Nat.add_assoc, endsUpto_succ, endsUpto_stop h hs j, he]
    simp
theorem endsUpto_bd {p : Po} {x : Sc} {a : Nat} {st : Nat → Bool} {k : Nat} {z : Int} (h : z ∈ endsUpto p x a st k) : ∃ d, d < k ∧ z = ((a + d : Nat) : Int) ∧ endAt p x a st d = true := by
  unfold endsUpto at h
  obtain ⟨d, h1, rfl⟩ := List.mem_map.1 h
  rw [List.mem_filter, List.mem_range] at h1
  exact ⟨d, h1.1, rfl, h1.2⟩
end Go.Proofs.YtlomjepemnlliaaDoor

/-! ## Walk18 -/
namespace Go.Proofs.YtlomjepemnlliaaDoor
open Go.RowKit

/-- What Ends answers. -/
def Ended18 (p : Po) (x : Sc) (q : Int) (a : Nat → Addr) (w : World) (e : Ending) (w' : World) : Prop :=
  ∃ (g : Option Nat) (v : Value) (r : List Int), e = .returned (.tuple #[v, walkErr a g]) ∧ Asked18 p x q g ∧ OwnInts w.heap.size w' v r ∧ (g = none → r = endList p x q.toNat) ∧ (g ≠ none → r = []) ∧ Below w.heap.size w w'

theorem WkAt.grown {p : Po} {pa : PoA} {x : Sc} {sb sm n g gi B0 : Nat} {L : List Nat} {fv : Value} {y y' : World} (h : WkAt p pa x sb sm n g gi B0 L fv y) (hs : Same (fun b => b < y.heap.size ∧ (b < B0 ∨ b = g ∨ b = gi ∨ fv.ownBlock = some b)) y y') : WkAt p pa x sb sm n g gi B0 L fv y' := by
  have hB : Same (· < B0) y y' := hs.mono fun b hb => ⟨Nat.lt_of_lt_of_le hb (Nat.le_trans h.kg (Nat.le_of_lt h.box.lt)), .inl hb⟩
  refine ⟨h.po.same hB fun b h => h, h.sc.same hB h.ksb h.ksm, h.ksb, h.ksm, h.kg, h.ki, h.row.same hs ⟨h.row.lt, .inr (.inr (.inl rfl))⟩, h.nodup, h.lt, h.box.same hs ⟨h.box.lt, .inr (.inl rfl)⟩, h.own.same hs fun k hk => ⟨(World.ownsRow.lt h.own k hk).2, .inr (.inr (.inr hk))⟩, h.ne⟩

set_option maxRecDepth 100000 in
set_option maxHeartbeats 4000000 in
theorem walkEnds_any (p : Po) (pa : PoA) (x : Sc) (sb sm : Nat) (q : Int) (a : Nat → Addr) (w : World) (hwf : p.wf) (hin : PoIn (· < w.heap.size) w p pa) (hsc : Scn w sb sm x) (hE : Sent [12, 14] w a) (hq : IsI64 q) (hn6 : p.Ok → p.sets.length < 1000000) (hx6 : x.len < 900000) :
    Calls Tryd.prog 14 #[.agg (p.cells pa).toArray, .pointer (some ⟨sb, 0, none⟩), .int .i64 q] w (Ended18 p x q a w) := by
  have hne := fun y ad => run_neq_iface_nil (P := Tryd.prog) (w := y) 37 (by kernel_rfl) 161 (.pointer (some ad))
  have hnn := fun y => run_neq_nil_nil_at (P := Tryd.prog) (w := y) 37 (by kernel_rfl)
  have HA := hide (fun y (hy : Below w.heap.size w y) => asked18_any p pa x sb sm q a y hwf (hin.next hy) (hsc.below hy) (hE.below hy) hq (fun h => Nat.le_of_lt (hn6 h)))
  have HWF := hide hwf
  have HSC := hide hsc
  clear hwf hin hE hsc
  obtain ⟨q1, q2⟩ := hq
  simp only [Po.cells] at HA ⊢
  have hbp := Blk.new w 26 #[.slice pa.s p.sets.length pa.cs, .int .i64 p.null, .slice pa.f p.first.length pa.cf, .slice pa.l p.last.length pa.cl, .slice pa.w p.follow.length pa.cw]
  have hbel := (Below.refl w.heap.size w).alloc (Nat.le_refl _) (.cells #[.slice pa.s p.sets.length pa.cs, .int .i64 p.null, .slice pa.f p.first.length pa.cf, .slice pa.l p.last.length pa.cl, .slice pa.w p.follow.length pa.cw] 26)
  go_enter Tryd.func14, Tryd.ntmps14
  go_wp2_with fail
  refine (HA.out _ hbel).mono ?_
  rintro e w1 ⟨g, hg, hb, hsome, hnone⟩
  have HB := hide (hbel.trans (hb.mono hbel.size))
  have hbs := hbel.size
  clear HA hbp
  cases g with
  | some k =>
    obtain rfl := hsome (by simp)
    have HG := hide hg
    clear hg hsome hnone hb hbel
    simp only [walkErr, errV]
    go_wp2_with fail
    go_ret2
    exact ⟨some k, _, [], rfl, HG.out, OwnInts.nil _ _, (fun h => by cases h), fun _ => rfl, HB.out⟩
  | none =>
  obtain ⟨gb, gi, rfl, hwk⟩ := hnone rfl
  have hok : p.Ok ∧ 0 ≤ q ∧ q ≤ x.len := by
    rcases hg with ⟨h, _⟩ | ⟨h, _⟩ | ⟨_, h⟩
    · cases h
    · cases h
    · exact h
  have HG := hide hg
  obtain ⟨i, hi⟩ : ∃ i : Nat, q = i := ⟨q.toNat, by omega⟩
  subst hi
  have hix : i ≤ x.len := by omega
  have HOk := hide hok.1
  replace hn6 := hn6 hok.1
  clear hg hok hsome hnone
  have HW0 := hide hwk
  generalize (w.alloc (.cells #[.slice pa.s p.sets.length pa.cs, .int .i64 p.null, .slice pa.f p.first.length pa.cf, .slice pa.l p.last.length pa.cl, .slice pa.w p.follow.length pa.cw] 26)) = W0 at *
  have hB0w := hb.size
  clear hwk hb hbel
  go_wp2_with fail
  go_loopw [10, 11] (fun lv iv wr => ∃ (d : Nat) (L : List Nat) (fv : Value), iv = .int .i64 ((i : Int) + (d : Int)) ∧ i + d ≤ x.len + 1 ∧ OwnInts w.heap.size wr lv (endsUpto p x i st0 d) ∧ WkAt p pa x sb sm p.sets.length gb gi W0.heap.size L fv wr ∧ (i + d ≤ x.len → ∀ z, z ∈ L ↔ frontB p x i st0 d z = true) ∧ (∀ h, fv.ownBlock = some h → lv.ownBlock ≠ some h) ∧ (∀ h, lv.ownBlock = some h → W0.heap.size ≤ h) ∧ Below w.heap.size w wr ∧ W0.heap.size ≤ wr.heap.size) (fun _ iv _ => x.len + 1 - (intOf iv).toNat)
  case atStart => exact ⟨0, [], _, by simp, by omega, OwnInts.nil _ _, HW0.out, (fun _ z => by simp [frontB]), (fun h hh => by cases hh), (fun h hh => by cases hh), HB.out, by omega⟩
  case round =>
    clear HB HW0
    obtain ⟨d, L, fv, rfl, hd, hown, hwk, hF, hdis, hlow, hbel, hsz⟩ := hrel
    have HLen := hide (slen_any hwk.sc)
    by_cases hlt : i + d ≤ x.len
    case neg =>
      have g1 : decide ((i : Int) + (d : Int) ≤ (x.len : Int)) = false := decide_eq_false (by omega)
      have hlist : endsUpto p x i st0 d = endList p x i := by unfold endList; rw [show x.len + 1 - i = d by omega]
      rw [hlist] at hown
      have HF := hide (And.intro hown hbel)
      clear hown hwk hF hdis hlow hbel
      go_wp2_with fail
      refine HLen.out.mono ?_
      rintro e w2 ⟨rfl, rfl⟩
      go_wp2_with fail
      go_ret2
      exact ⟨none, _, _, rfl, HG.out, HF.out.1, (fun _ => by rw [Int.toNat_natCast]), fun h => absurd rfl h, HF.out.2⟩
    have g1 : decide ((i : Int) + (d : Int) ≤ (x.len : Int)) = true := decide_eq_true (by omega)
    have hst : ((i : Int) + (d : Int) == (i : Int)) = st0 d := by
      unfold st0
      rw [Bool.eq_iff_iff, beq_iff_eq, beq_iff_eq]
      omega
    have hcast : ((i + d : Nat) : Int) = (i : Int) + (d : Int) := by omega
    have HEn := hide (ends18_any p pa x sb sm p.sets.length gb gi W0.heap.size L fv wr (i + d) (st0 d) hlt rfl hn6 HWF.out HOk.out hwk hsz (frontB p x i st0 d) (hF hlt))
    rw [hcast, show endsB p (x.mark (i + d)) (st0 d) (frontB p x i st0 d) = endAt p x i st0 d from rfl] at HEn
    have HST := hide (fun (L : List Nat) (fv : Value) (y : World) (h1 : i + d < x.len) h2 h3 h4 => step18_any p pa x sb sm p.sets.length gb gi W0.heap.size L fv y (i + d) (st0 d) h1 rfl hn6 HWF.out HOk.out h2 h3 (frontB p x i st0 d) h4)
    rw [hcast] at HST
    obtain ⟨en, hen⟩ : ∃ b, b = endAt p x i st0 d := ⟨_, rfl⟩
    rw [← hen] at HEn
    have hes : endsUpto p x i st0 (d + 1) = endsUpto p x i st0 d ++ if en = true then [(i : Int) + (d : Int)] else [] := by rw [endsUpto_succ, ← hen, hcast]
    have hel := endsUpto_len p x i st0 d
    have HH := hide (And.intro hown (And.intro hwk (And.intro (hF hlt) (And.intro hdis (And.intro hlow (And.intro hbel hes))))))
    clear hown hwk hF hdis hlow hbel hes hen
    go_wp2_with fail
    refine HLen.out.mono ?_
    rintro e w2 ⟨rfl, rfl⟩
    rename World => W1
    go_wp2_with (simp only [hst])
    refine HEn.out.mono ?_
    rintro e w2 ⟨rfl, hb⟩
    have hwk2 := HH.out.2.1.grown ((same_of_below hb).mono fun b h => h.1)
    have hown2 := HH.out.1.below hb (Nat.le_refl _)
    have hz2 := hb.size
    have H2 := hide (And.intro hwk2 (And.intro hown2 (HH.out.2.2.2.2.2.1.trans (hb.mono HH.out.2.2.2.2.2.1.size))))
    clear hb hwk2 hown2 HEn
    go_upto_if 34 with fail
    go_cut [10] (fun lz wx => ∃ (A : Option Addr) (c : Nat), lz = .slice A (endsUpto p x i st0 (d + 1)).length c ∧ OwnInts w.heap.size wx (.slice A (endsUpto p x i st0 (d + 1)).length c) (endsUpto p x i st0 (d + 1)) ∧ WkAt p pa x sb sm p.sets.length gb gi W0.heap.size L fv wx ∧ (∀ h, fv.ownBlock = some h → (Value.slice A (endsUpto p x i st0 (d + 1)).length c).ownBlock ≠ some h) ∧ (∀ h, (Value.slice A (endsUpto p x i st0 (d + 1)).length c).ownBlock = some h → W0.heap.size ≤ h) ∧ Below w.heap.size w wx ∧ W0.heap.size ≤ wx.heap.size)
    case first =>
      cases en with
      | false =>
        have he2 : endsUpto p x i st0 (d + 1) = endsUpto p x i st0 d := by rw [HH.out.2.2.2.2.2.2]; simp
        go_wp2_with fail
        go_meet
        case rel =>
          rw [he2]
          obtain ⟨A, c, e, _, _⟩ := H2.out.2.1.form
          rw [e] at H2 ⊢
          have h5 := HH.out.2.2.2.1
          have h6 := HH.out.2.2.2.2.1
          rw [e] at h5 h6
          exact ⟨A, c, rfl, H2.out.2.1, H2.out.1, h5, h6, H2.out.2.2, by omega⟩
      | true =>
        have he2 : endsUpto p x i st0 (d + 1) = endsUpto p x i st0 d ++ [(i : Int) + (d : Int)] := by rw [HH.out.2.2.2.2.2.2]; simp
        have hal := (Below.refl w2.heap.size w2).alloc (Nat.le_refl _) (.cells #[.int .i64 ((i : Int) + (d : Int))] 3)
        have hoA := hide (H2.out.2.1.below hal (Nat.le_refl _))
        have hlen : (endsUpto p x i st0 d).length < 1000000 := by omega
        have hw2s := H2.out.2.2.size
        have HE2 := hide he2
        clear he2
        go_wp2_with (at_builtin; refine wpList_push_int rfl _ _ rfl w.heap.size _ _ rfl hoA.out ((i : Int) + (d : Int)) w2.heap.size 1 rfl (Blk.new _ _ _) hlen (by simp; omega) ?_)
        intro v' w5 hown5 hg5 hv5
        obtain ⟨A5, c5, rfl, _, _⟩ := hown5.form
        have hsz5 := hg5.size
        simp only [World.size_alloc] at hsz5
        have hs5 : Same (fun b => b < w2.heap.size ∧ (b < W0.heap.size ∨ b = gb ∨ b = gi ∨ fv.ownBlock = some b)) w2 w5 := fun b hb => (hg5.block b (by simp; omega) (fun e => by
          rcases hb.2 with h | h | h | h
          · have := HH.out.2.2.2.2.1 b e.symm; omega
          · exact H2.out.2.1.ne_type H2.out.1.box (by decide) b e.symm h
          · obtain ⟨row, hr, _⟩ := H2.out.1.row
            exact H2.out.2.1.ne_type hr (by decide) b e.symm h
          · exact HH.out.2.2.2.1 b h e.symm)).trans (same_of_below hal b hb.1)
        have hb5 : Below w.heap.size w w5 := below_grew (H2.out.2.2.alloc (by omega) (.cells #[.int .i64 ((i : Int) + (d : Int))] 3)) hg5 (Nat.le_refl _) (fun g hg => by have := HH.out.2.2.2.2.1 g hg; omega)
        have H5 := hide (And.intro hown5 (And.intro (H2.out.1.grown hs5) (And.intro hb5 hv5)))
        clear hown5 hg5 hs5 hb5 hv5 hoA hal
        go_wp2_with fail
        go_meet
        case rel =>
          rw [HE2.out]
          refine ⟨A5, c5, rfl, H5.out.1, H5.out.2.1, fun h hh e => ?_, fun h hh => ?_, H5.out.2.2.1, by omega⟩
          · rcases H5.out.2.2.2 with e2 | e2
            · rw [e2] at e; exact HH.out.2.2.2.1 h hh e
            · rw [e2] at e
              have := (World.ownsRow.lt H2.out.1.own h hh).2
              simp only [World.size_alloc, Option.some.injEq] at e
              omega
          · rcases H5.out.2.2.2 with e2 | e2
            · rw [e2] at hh; exact HH.out.2.2.2.2.1 h hh
            · rw [e2] at hh
              simp only [World.size_alloc, Option.some.injEq] at hh
              omega
    case rest =>
    obtain ⟨A, c, rfl, hown, hwk, hdis, hlow, hbel, hsz3⟩ := hcut
    have HLen2 := hide (slen_any hwk.sc)
    have hmF := HH.out.2.2.1
    have hel1 := endsUpto_len p x i st0 (d + 1)
    generalize hll : (endsUpto p x i st0 (d + 1)).length = ll at *
    have H3 := hide (And.intro hown (And.intro hwk (And.intro hdis (And.intro hlow (And.intro hbel hmF)))))
    have HLL := hide hll
    clear hown hwk hdis hlow hbel hmF hll H2 HH HLen
    by_cases hll2 : i + d < x.len
    · have g2 : decide ((i : Int) + (d : Int) < (x.len : Int)) = true := decide_eq_true (by omega)
      go_wp2_with fail
      refine HLen2.out.mono ?_
      rintro e w3 ⟨rfl, rfl⟩
      go_wp2_with (simp only [hst])
      refine (HST.out L fv _ hll2 H3.out.2.1 hsz3 H3.out.2.2.2.2.2).mono ?_
      rintro e w3 ⟨rfl, L', fv', hwk', hF', hb', hnew, hsame⟩
      rename World => W3
      have hown3 : OwnInts w.heap.size W3 (.slice A ll c) (endsUpto p x i st0 (d + 1)) := H3.out.1.same hsame fun k hk => ⟨(World.ownsRow.lt H3.out.1 k hk).2, H3.out.1.ne_type H3.out.2.1.box (by decide) k hk, by
        obtain ⟨row, hr, _⟩ := H3.out.2.1.row
        exact H3.out.1.ne_type hr (by decide) k hk⟩
      have hbel3 := H3.out.2.2.2.2.1.trans (hb'.mono (by omega))
      have hz3 := hb'.size
      obtain ⟨FA, Fc, hfv, _, _⟩ := hwk'.own.form
      rw [List.length_map] at hfv
      have hdis3 : ∀ h, fv'.ownBlock = some h → (Value.slice A ll c).ownBlock ≠ some h := fun h hh e => by
        have := hnew h hh
        have := (World.ownsRow.lt H3.out.1 h e).2
        omega
      have hF3 : ∀ z, z ∈ L' ↔ frontB p x i st0 (d + 1) z = true := hF'
      subst hfv
      have cg := hwk'.box.cell
      have H4 := hide (And.intro hown3 (And.intro hwk' (And.intro hdis3 (And.intro hbel3 hF3))))
      clear hown3 hwk' hdis3 hbel3 hF3 hF' hb' hnew hsame
      by_cases hnil : L' = []
      · subst hnil
        have hlist : endList p x i = endsUpto p x i st0 (d + 1) := by
          unfold endList
          rw [show x.len + 1 - i = (d + 1) + (x.len - i - d) by omega]
          refine endsUpto_stop (fun z => ?_) (fun k hk => by unfold st0; exact beq_false_of_ne (by omega)) _
          cases hz : frontB p x i st0 (d + 1) z with
          | false => rfl
          | true => have := (H4.out.2.2.2.2 z).2 hz; simp at this
        have HLI := hide hlist
        clear hlist
        go_wp2_with fail
        go_ret2
        exact ⟨none, _, _, rfl, HG.out, H4.out.1, (fun _ => by rw [Int.toNat_natCast, HLI.out]), fun h => absurd rfl h, H4.out.2.2.2.1⟩
      · have hpos : 0 < L'.length := List.length_pos_iff.2 hnil
        have g3 : ((L'.length : Int) == 0) = false := beq_false_of_ne (by omega)
        go_wp2_with fail
        go_roundw
        case rel => exact ⟨d + 1, L', _, by go_num, by omega, H4.out.1, H4.out.2.1, fun _ => H4.out.2.2.2.2, H4.out.2.2.1, H3.out.2.2.2.1, H4.out.2.2.2.1, by omega⟩
        case measure => simp [intOf]; omega
    · have g2 : decide ((i : Int) + (d : Int) < (x.len : Int)) = false := decide_eq_false (by omega)
      obtain ⟨FA, Fc, hfv, _, _⟩ := H3.out.2.1.own.form
      rw [List.length_map] at hfv
      subst hfv
      have cg := H3.out.2.1.box.cell
      have hlist : endList p x i = endsUpto p x i st0 (d + 1) := by
        unfold endList
        rw [show x.len + 1 - i = d + 1 by omega]
      have HLI := hide hlist
      clear hlist
      by_cases hnil : L = []
      · subst hnil
        go_wp2_with fail
        refine HLen2.out.mono ?_
        rintro e w3 ⟨rfl, rfl⟩
        go_wp2_with fail
        go_ret2
        exact ⟨none, _, _, rfl, HG.out, H3.out.1, (fun _ => by rw [Int.toNat_natCast, HLI.out]), fun h => absurd rfl h, H3.out.2.2.2.2.1⟩
      · have hpos : 0 < L.length := List.length_pos_iff.2 hnil
        have g3 : ((L.length : Int) == 0) = false := beq_false_of_ne (by omega)
        go_wp2_with fail
        refine HLen2.out.mono ?_
        rintro e w3 ⟨rfl, rfl⟩
        go_wp2_with fail
        go_roundw
        case rel => exact ⟨d + 1, L, _, by go_num, by omega, H3.out.1, H3.out.2.1, fun h => by omega, H3.out.2.2.1, H3.out.2.2.2.1, H3.out.2.2.2.2.1, by omega⟩
        case measure => simp [intOf]; omega
end Go.Proofs.YtlomjepemnlliaaDoor

/-! ## Any18 -/
namespace Go.Proofs.YtlomjepemnlliaaDoor
open Go.RowKit

/-- A place, and whether there is one. -/
def PlaceIs (z : Option Int) (n : Int) (ok : Bool) : Prop := (z = none ∧ n = 0 ∧ ok = false) ∨ (z = some n ∧ ok = true)
/-- What Longest and Any answer: a place, whether there is one, the error. -/
def Placed18 (p : Po) (x : Sc) (q : Int) (z : Option Int) (a : Nat → Addr) (w : World) (e : Ending) (w' : World) : Prop :=
  ∃ (g : Option Nat) (n : Int) (ok : Bool), e = .returned (.tuple #[.int .i64 n, .bool ok, walkErr a g]) ∧ Asked18 p x q g ∧ (g = none → PlaceIs z n ok) ∧ (g ≠ none → n = 0 ∧ ok = false) ∧ Below w.heap.size w w'

set_option maxRecDepth 100000 in
set_option maxHeartbeats 2000000 in
theorem longest_any (p : Po) (pa : PoA) (x : Sc) (sb sm : Nat) (q : Int) (a : Nat → Addr) (w : World) (hwf : p.wf) (hin : PoIn (· < w.heap.size) w p pa) (hsc : Scn w sb sm x) (hE : Sent [12, 14] w a) (hq : IsI64 q) (hn6 : p.Ok → p.sets.length < 1000000) (hx6 : x.len < 900000) :
    Calls Tryd.prog 15 #[.agg (p.cells pa).toArray, .pointer (some ⟨sb, 0, none⟩), .int .i64 q] w (Placed18 p x q (endList p x q.toNat)[(endList p x q.toNat).length - 1]? a w) := by
  have hne := fun y ad => run_neq_iface_nil (P := Tryd.prog) (w := y) 37 (by kernel_rfl) 161 (.pointer (some ad))
  have hnn := fun y => run_neq_nil_nil_at (P := Tryd.prog) (w := y) 37 (by kernel_rfl)
  have HA := hide (fun y (hy : Below w.heap.size w y) => walkEnds_any p pa x sb sm q a y hwf (hin.next hy) (hsc.below hy) (hE.below hy) hq hn6 hx6)
  clear hwf hin hE hsc
  obtain ⟨q1, q2⟩ := hq
  simp only [Po.cells] at HA ⊢
  have hel : (endList p x q.toNat).length ≤ 9223372036854775807 := by have := endsUpto_len p x q.toNat st0 (x.len + 1 - q.toNat); unfold endList; omega
  have hbel := (Below.refl w.heap.size w).alloc (Nat.le_refl _) (.cells #[.slice pa.s p.sets.length pa.cs, .int .i64 p.null, .slice pa.f p.first.length pa.cf, .slice pa.l p.last.length pa.cl, .slice pa.w p.follow.length pa.cw] 26)
  go_enter Tryd.func15, Tryd.ntmps15
  go_wp2_with fail
  refine (HA.out _ hbel).mono ?_
  rintro e w1 ⟨g, v, r, rfl, hg, hown, hr, hr0, hb⟩
  have HB := hide (And.intro (hbel.trans (hb.mono hbel.size)) hg)
  obtain ⟨A, c, rfl, hl, hc⟩ := hown.form
  clear HA hb hbel hg hown
  cases g with
  | some k =>
    obtain rfl := hr0 (by simp)
    clear hr hr0
    simp only [walkErr, errV]
    go_wp2_with fail
    go_ret3
    exact ⟨some k, 0, false, rfl, HB.out.2, (fun h => by cases h), (fun _ => ⟨rfl, rfl⟩), HB.out.1⟩
  | none =>
  obtain hrl := hr rfl
  clear hr hr0
  simp only [walkErr]
  by_cases hnil : r = []
  · subst hnil
    have HRL := hide hrl
    clear hrl hc
    go_wp2_with fail
    go_ret3
    exact ⟨none, 0, false, rfl, HB.out.2, (fun _ => .inl ⟨by rw [← HRL.out]; rfl, rfl, rfl⟩), (fun h => absurd rfl h), HB.out.1⟩
  · have hpos : 0 < r.length := List.length_pos_iff.2 hnil
    have g3 : ((r.length : Int) == 0) = false := beq_false_of_ne (by omega)
    have hj := List.getElem?_eq_getElem (show r.length - 1 < r.length by omega)
    have hz : (endList p x q.toNat)[(endList p x q.toNat).length - 1]? = some (r[r.length - 1]'(by omega)) := by rw [← hrl]; exact hj
    generalize r[r.length - 1]'(by omega) = z at *
    obtain ⟨gl, rfl, _, _, cl⟩ := hc _ _ hj
    obtain ⟨n1, hn1⟩ : ∃ n1, r.length = n1 + 1 := ⟨r.length - 1, by omega⟩
    have HZ := hide hz
    clear hz hj hrl hc
    rw [hn1] at cl hl g3 ⊢
    simp only [Nat.add_sub_cancel] at cl
    have hsub : ((n1 + 1 : Nat) : Int) - 1 = (n1 : Int) := by omega
    clear hn1 hpos
    go_wp2_with fail
    go_ret3
    exact ⟨none, z, true, rfl, HB.out.2, (fun _ => .inr ⟨HZ.out, rfl⟩), (fun h => absurd rfl h), HB.out.1⟩

/-- A piece may begin at each place. -/
def st1 (d : Nat) : Bool := true
def anyList (p : Po) (x : Sc) (a : Nat) : List Int := endsUpto p x a st1 (x.len + 1 - a)
theorem endsUpto_head {p : Po} {x : Sc} {a : Nat} {st : Nat → Bool} {k : Nat} (h : endsUpto p x a st k = []) (he : endAt p x a st k = true) : ∀ j, (endsUpto p x a st (k + 1 + j))[0]? = some ((a + k : Nat) : Int)
  | 0 => by rw [Nat.add_zero, endsUpto_succ, h, he]; rfl
  | j + 1 => by
    rw [← Nat.add_assoc, endsUpto_succ]
    have := endsUpto_head h he j
    rw [List.getElem?_append_left (by have := (List.getElem?_eq_some_iff.1 this).1; exact this)]
    exact this

set_option maxRecDepth 100000 in
set_option maxHeartbeats 4000000 in
theorem walkAny_any (p : Po) (pa : PoA) (x : Sc) (sb sm : Nat) (q : Int) (a : Nat → Addr) (w : World) (hwf : p.wf) (hin : PoIn (· < w.heap.size) w p pa) (hsc : Scn w sb sm x) (hE : Sent [12, 14] w a) (hq : IsI64 q) (hn6 : p.Ok → p.sets.length < 1000000) (hx6 : x.len < 900000) :
    Calls Tryd.prog 20 #[.agg (p.cells pa).toArray, .pointer (some ⟨sb, 0, none⟩), .int .i64 q] w (Placed18 p x q (anyList p x q.toNat)[0]? a w) := by
  have hne := fun y ad => run_neq_iface_nil (P := Tryd.prog) (w := y) 37 (by kernel_rfl) 161 (.pointer (some ad))
  have hnn := fun y => run_neq_nil_nil_at (P := Tryd.prog) (w := y) 37 (by kernel_rfl)
  have HA := hide (fun y (hy : Below w.heap.size w y) => asked18_any p pa x sb sm q a y hwf (hin.next hy) (hsc.below hy) (hE.below hy) hq (fun h => Nat.le_of_lt (hn6 h)))
  have HWF := hide hwf
  clear hwf hin hE hsc
  obtain ⟨q1, q2⟩ := hq
  simp only [Po.cells] at HA ⊢
  have hbel := (Below.refl w.heap.size w).alloc (Nat.le_refl _) (.cells #[.slice pa.s p.sets.length pa.cs, .int .i64 p.null, .slice pa.f p.first.length pa.cf, .slice pa.l p.last.length pa.cl, .slice pa.w p.follow.length pa.cw] 26)
  go_enter Tryd.func20, Tryd.ntmps20
  go_wp2_with fail
  refine (HA.out _ hbel).mono ?_
  rintro e w1 ⟨g, hg, hb, hsome, hnone⟩
  have HB := hide (hbel.trans (hb.mono hbel.size))
  have hbs := hbel.size
  clear HA
  cases g with
  | some k =>
    obtain rfl := hsome (by simp)
    have HG := hide hg
    clear hg hsome hnone hb hbel
    simp only [walkErr, errV]
    go_wp2_with fail
    go_ret3
    exact ⟨some k, 0, false, rfl, HG.out, (fun h => by cases h), (fun _ => ⟨rfl, rfl⟩), HB.out⟩
  | none =>
  obtain ⟨gb, gi, rfl, hwk⟩ := hnone rfl
  have hok : p.Ok ∧ 0 ≤ q ∧ q ≤ x.len := by
    rcases hg with ⟨h, _⟩ | ⟨h, _⟩ | ⟨_, h⟩
    · cases h
    · cases h
    · exact h
  have HG := hide hg
  obtain ⟨i, hi⟩ : ∃ i : Nat, q = i := ⟨q.toNat, by omega⟩
  subst hi
  have hix : i ≤ x.len := by omega
  have HOk := hide hok.1
  replace hn6 := hn6 hok.1
  clear hg hok hsome hnone
  have HW0 := hide hwk
  generalize (w.alloc (.cells #[.slice pa.s p.sets.length pa.cs, .int .i64 p.null, .slice pa.f p.first.length pa.cf, .slice pa.l p.last.length pa.cl, .slice pa.w p.follow.length pa.cw] 26)) = W0 at *
  have hB0w := hb.size
  clear hwk hb hbel
  go_wp2_with fail
  go_loopw [11] (fun iv wr => ∃ (d : Nat) (L : List Nat) (fv : Value), iv = .int .i64 ((i : Int) + (d : Int)) ∧ i + d ≤ x.len + 1 ∧ endsUpto p x i st1 d = [] ∧ WkAt p pa x sb sm p.sets.length gb gi W0.heap.size L fv wr ∧ (i + d ≤ x.len → ∀ z, z ∈ L ↔ frontB p x i st1 d z = true) ∧ Below w.heap.size w wr ∧ W0.heap.size ≤ wr.heap.size) (fun iv _ => x.len + 1 - (intOf iv).toNat)
  case atStart => exact ⟨0, [], _, by simp, by omega, rfl, HW0.out, (fun _ z => by simp [frontB]), HB.out, by omega⟩
  case round =>
    clear HB HW0
    obtain ⟨d, L, fv, rfl, hd, hemp, hwk, hF, hbel, hsz⟩ := hrel
    have HLen := hide (slen_any hwk.sc)
    by_cases hlt : i + d ≤ x.len
    case neg =>
      have g1 : decide ((i : Int) + (d : Int) ≤ (x.len : Int)) = false := decide_eq_false (by omega)
      have hlist : anyList p x i = [] := by unfold anyList; rw [show x.len + 1 - i = d by omega]; exact hemp
      have HF := hide (And.intro hlist hbel)
      clear hlist hwk hF hbel hemp
      go_wp2_with fail
      refine HLen.out.mono ?_
      rintro e w2 ⟨rfl, rfl⟩
      go_wp2_with fail
      go_ret3
      exact ⟨none, 0, false, rfl, HG.out, (fun _ => .inl ⟨by rw [Int.toNat_natCast, HF.out.1]; rfl, rfl, rfl⟩), (fun h => absurd rfl h), HF.out.2⟩
    have g1 : decide ((i : Int) + (d : Int) ≤ (x.len : Int)) = true := decide_eq_true (by omega)
    have hcast : ((i + d : Nat) : Int) = (i : Int) + (d : Int) := by omega
    have HEn := hide (ends18_any p pa x sb sm p.sets.length gb gi W0.heap.size L fv wr (i + d) true hlt rfl hn6 HWF.out HOk.out hwk hsz (frontB p x i st1 d) (hF hlt))
    rw [hcast, show endsB p (x.mark (i + d)) true (frontB p x i st1 d) = endAt p x i st1 d from rfl] at HEn
    have HST := hide (fun (L : List Nat) (fv : Value) (y : World) (h1 : i + d < x.len) h2 h3 h4 => step18_any p pa x sb sm p.sets.length gb gi W0.heap.size L fv y (i + d) true h1 rfl hn6 HWF.out HOk.out h2 h3 (frontB p x i st1 d) h4)
    rw [hcast] at HST
    obtain ⟨en, hen⟩ : ∃ b, b = endAt p x i st1 d := ⟨_, rfl⟩
    rw [← hen] at HEn
    have HH := hide (And.intro hwk (And.intro (hF hlt) (And.intro hbel (And.intro hemp hen))))
    clear hwk hF hbel hemp hen
    go_wp2_with fail
    refine HLen.out.mono ?_
    rintro e w2 ⟨rfl, rfl⟩
    rename World => W1
    go_wp2_with fail
    refine HEn.out.mono ?_
    rintro e w2 ⟨rfl, hb⟩
    have hwk2 := HH.out.1.grown ((same_of_below hb).mono fun b h => h.1)
    have hz2 := hb.size
    have H2 := hide (And.intro hwk2 (HH.out.2.2.1.trans (hb.mono HH.out.2.2.1.size)))
    clear hb hwk2 HEn
    cases en with
    | true =>
      have hhead : (anyList p x i)[0]? = some ((i : Int) + (d : Int)) := by
        unfold anyList
        rw [show x.len + 1 - i = d + 1 + (x.len - i - d) by omega, endsUpto_head HH.out.2.2.2.1 HH.out.2.2.2.2.symm, hcast]
      have HD := hide hhead
      clear hhead
      go_wp2_with fail
      go_ret3
      exact ⟨none, _, true, rfl, HG.out, (fun _ => .inr ⟨by rw [Int.toNat_natCast]; exact HD.out, rfl⟩), (fun h => absurd rfl h), H2.out.2⟩
    | false =>
    have hemp2 : endsUpto p x i st1 (d + 1) = [] := by rw [endsUpto_succ, HH.out.2.2.2.1, ← HH.out.2.2.2.2]; rfl
    have HE2 := hide hemp2
    have HLen2 := hide (slen_any H2.out.1.sc)
    have hmF := hide HH.out.2.1
    clear hemp2 HH HLen
    by_cases hll2 : i + d < x.len
    · have g2 : decide ((i : Int) + (d : Int) < (x.len : Int)) = true := decide_eq_true (by omega)
      go_wp2_with fail
      refine HLen2.out.mono ?_
      rintro e w3 ⟨rfl, rfl⟩
      go_wp2_with fail
      refine (HST.out L fv _ hll2 H2.out.1 (by omega) hmF.out).mono ?_
      rintro e w3 ⟨rfl, L', fv', hwk', hF', hb', hnew, hsame⟩
      have hz3 := hb'.size
      have hF3 : ∀ z, z ∈ L' ↔ frontB p x i st1 (d + 1) z = true := hF'
      have H4 := hide (And.intro hwk' (And.intro hF3 (H2.out.2.trans (hb'.mono (by omega)))))
      clear hF3 hF' hb' hnew hsame hwk'
      go_wp2_with fail
      go_roundw
      case rel => exact ⟨d + 1, L', fv', by go_num, by omega, HE2.out, H4.out.1, fun _ => H4.out.2.1, H4.out.2.2, by omega⟩
      case measure => simp [intOf]; omega
    · have g2 : decide ((i : Int) + (d : Int) < (x.len : Int)) = false := decide_eq_false (by omega)
      go_wp2_with fail
      refine HLen2.out.mono ?_
      rintro e w3 ⟨rfl, rfl⟩
      go_wp2_with fail
      go_roundw
      case rel => exact ⟨d + 1, L, fv, by go_num, by omega, HE2.out, H2.out.1, fun h => by omega, H2.out.2, by omega⟩
      case measure => simp [intOf]; omega
end Go.Proofs.YtlomjepemnlliaaDoor
