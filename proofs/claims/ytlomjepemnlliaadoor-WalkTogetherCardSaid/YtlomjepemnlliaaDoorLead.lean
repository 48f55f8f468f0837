/- The closure of walk's step: what edges lead to over a byte. (Printed by gen_lead.py.) -/
import Derived.Test.YtlomjepemnlliaaDoorPoCheck
import Derived.Test.YtlomjepemnlliaaDoorWays
import Derived.Test.YtlomjepemnlliaaDoorBoolRow
import Derived.Test.YtlomjepemnlliaaDoorPick
set_option linter.unusedSimpArgs false
set_option linter.unusedVariables false
namespace Go.Proofs.YtlomjepemnlliaaDoor
open Go.RowKit

/-- Is a byte in the set of position q? -/
def setHas (p : Po) (q b : Nat) : Bool :=
  match p.sets[q]? with
  | some s => Hd.has ⟨0, s.1, s.2.1, s.2.2.1, s.2.2.2, 0, 0, 0, false⟩ b
  | none => false
/-- Do the edges l lead to position q at marks m over byte b? -/
def leads (p : Po) (m b : Nat) (l : List Ed) (q : Nat) : Bool := l.any fun e => e.1 == (q : Int) && (e.2.toNat.testBit m && setHas p q b)
theorem leads_snoc (p : Po) (m b : Nat) (l : List Ed) (e : Ed) (q : Nat) : leads p m b (l ++ [e]) q = (leads p m b l q || (e.1 == (q : Int) && (e.2.toNat.testBit m && setHas p q b))) := by
  simp [leads, List.any_append]

theorem nodup_len : ∀ (n : Nat) (l : List Nat), l.Nodup → (∀ q ∈ l, q < n) → l.length ≤ n
  | 0, l, _, h => by
    cases l with
    | nil => simp
    | cons a l => have := h a (by simp); omega
  | n + 1, l, hd, h => by
    by_cases hn : n ∈ l
    · have h1 := nodup_len n (l.erase n) (hd.erase n) fun q hq => by
        have h2 := h q (List.mem_of_mem_erase hq)
        have h3 : q ≠ n := fun e => by subst e; exact (hd.mem_erase_iff.1 hq).1 rfl
        omega
      rw [List.length_erase_of_mem hn] at h1
      omega
    · have := nodup_len n l hd fun q hq => by
        have h2 := h q hq
        have h3 : q ≠ n := fun e => hn (e ▸ hq)
        omega
      omega

/-- The list of positions N lies in the variable of block bn. -/
def NextIs (y : World) (bn bN : Nat) (N : List Nat) : Prop := ∃ nv, Blk y bn 35 #[nv] ∧ OwnInts bN y nv (N.map fun q : Nat => (q : Int))
/-- The blocks that the closure leaves alone. -/
def Keep (gi bn bN : Nat) (b : Nat) : Prop := b < bN ∧ b ≠ gi ∧ b ≠ bn
theorem SeIn.cell {ok : Nat → Prop} {w : World} {l : List Se} {A : Option Addr} (h : SeIn ok w l A) {k : Nat} {s : Se} (hk : l[k]? = some s) :
    ∃ b o, A = some ⟨b, o, none⟩ ∧ ok b ∧ w.cell? ⟨b, o + k * 4, none⟩ = some (.int .u64 s.1) ∧ w.cell? ⟨b, o + k * 4 + 1, none⟩ = some (.int .u64 s.2.1) ∧ w.cell? ⟨b, o + k * 4 + 2, none⟩ = some (.int .u64 s.2.2.1) ∧ w.cell? ⟨b, o + k * 4 + 3, none⟩ = some (.int .u64 s.2.2.2) := by
  obtain ⟨b, o, e1, hb, hc⟩ := LIn.at_ h hk
  exact ⟨b, o, e1, hb, by simpa [Addr.add_lit] using hc 0 _ rfl, by simpa [Addr.add_lit] using hc 1 _ rfl, by simpa [Addr.add_lit] using hc 2 _ rfl, by simpa [Addr.add_lit] using hc 3 _ rfl⟩

/-- What the closure reads: the walker, its positions' sets, the marks, the byte. -/
structure LeadEnv (ok : Nat → Prop) (p : Po) (pa : PoA) (m b n g gi bw bm bb : Nat) (fv xv : Value) (y : World) : Prop where
  kw : ok bw
  km : ok bm
  kb : ok bb
  kg : ok g
  cw : Blk y bw 82 #[.pointer (some ⟨g, 0, none⟩)]
  cm : Blk y bm 3 #[.int .i64 m]
  cb : Blk y bb 5 #[.int .u8 b]
  cg : Blk y g 89 #[.slice pa.s p.sets.length pa.cs, .int .i64 p.null, .slice pa.f p.first.length pa.cf, .slice pa.l p.last.length pa.cl, .slice pa.w p.follow.length pa.cw, xv, fv, .slice (some ⟨gi, 0, none⟩) n n]
  sets : SeIn ok y p.sets pa.s
theorem LeadEnv.same {ok : Nat → Prop} {p : Po} {pa : PoA} {m b n g gi bw bm bb : Nat} {fv xv : Value} {y y' : World} (h : LeadEnv ok p pa m b n g gi bw bm bb fv xv y) (hs : Same ok y y') : LeadEnv ok p pa m b n g gi bw bm bb fv xv y' :=
  ⟨h.kw, h.km, h.kb, h.kg, h.cw.same hs h.kw, h.cm.same hs h.km, h.cb.same hs h.kb, h.cg.same hs h.kg, h.sets.same hs fun _ h => h⟩

theorem NextIs.later {y y' : World} {bn bN : Nat} {N : List Nat} (h : NextIs y bn bN N) (hb : Below y.heap.size y y') (x : Later y') : NextIs x.val bn bN N := by
  obtain ⟨nv, h1, h2⟩ := h
  exact ⟨nv, (h1.nxt hb).nxt x.2, (h2.below hb (Nat.le_refl _)).below x.2 (Nat.le_refl _)⟩

/-- What the closure leaves: the list of positions, the marks of those that are on it. -/
structure Led (p : Po) (m b n gi bn bN B0 : Nat) (N : List Nat) (r : List Ed) (y y' : World) (N' : List Nat) : Prop where
  next : NextIs y' bn bN N'
  row : BoRow y' gi n (fun q => decide (q ∈ N'))
  nodup : N'.Nodup
  lt : ∀ q ∈ N', q < n
  mem : ∀ q, q ∈ N' ↔ q ∈ N ∨ leads p m b r q = true
  below : Below B0 y y'
  same : Same (Keep gi bn bN) y y'

set_option maxRecDepth 100000 in
set_option maxHeartbeats 4000000 in
theorem lead_any (p : Po) (pa : PoA) (m b n g gi bw bm bb bn bN B0 : Nat) (fv xv : Value) (hm : m < 4) (hb : b < 256) (hn : p.sets.length = n) (hn6 : n < 1000000) (hwf : ∀ s ∈ p.sets, Se.wf s) (r : List Ed) (B : Option Addr) (c : Nat) (N : List Nat) (y : World)
    (hok : EdOk n r) (hrl : r.length ≤ 9223372036854775807) (hin : EdIn (Keep gi bn bN) y r B) (hE : LeadEnv (Keep gi bn bN) p pa m b n g gi bw bm bb fv xv y) (hnx : NextIs y bn bN N) (hrow : BoRow y gi n (fun q => decide (q ∈ N))) (hnd : N.Nodup) (hlt : ∀ q ∈ N, q < n)
    (h0i : B0 ≤ gi) (h0n : B0 ≤ bn) (h0N : B0 ≤ bN) (hiN : gi < bN) (hnN : bn < bN) (hNy : bN ≤ y.heap.size) :
    Calls Tryd.prog 81 #[.slice B r.length c, .pointer (some ⟨bw, 0, none⟩), .pointer (some ⟨bm, 0, none⟩), .pointer (some ⟨bb, 0, none⟩), .pointer (some ⟨bn, 0, none⟩)] y fun e y' => e = .returned (.tuple #[]) ∧ ∃ N', Led p m b n gi bn bN B0 N r y y' N' := by
  have HIn := hide hin
  have HE := hide hE
  have HOk := hide (And.intro hok hwf)
  have HN0 := hide (Led.mk (p := p) (m := m) (b := b) (n := n) (gi := gi) (bn := bn) (bN := bN) (B0 := B0) (N := N) (r := r.take 0) (y := y) (y' := y) hnx hrow hnd hlt (fun q => by simp [leads]) (Below.refl _ _) (Same.refl _ _))
  clear hin hE hok hwf hnx hrow hnd hlt
  go_enter Tryd.func81, Tryd.ntmps81
  go_wp2_with fail
  go_loopw [10] (fun kv wr => ∃ (k : Nat) (N' : List Nat), kv = .int .i64 k ∧ k ≤ r.length ∧ Led p m b n gi bn bN B0 N (r.take k) y wr N') (fun kv _ => r.length - (intOf kv).toNat)
  case atStart => exact ⟨0, N, rfl, by omega, HN0.out⟩
  case round =>
    clear HN0
    obtain ⟨k, N', rfl, hk, hled⟩ := hrel
    by_cases hlt : k < r.length
    case neg =>
      have g1 : decide ((k : Int) < (r.length : Int)) = false := decide_eq_false (by omega)
      obtain rfl : k = r.length := by omega
      rw [List.take_length] at hled
      have HH := hide hled
      clear hled
      go_wp2_with fail
      go_end0
      exact ⟨rfl, N', HH.out⟩
    have g1 : decide ((k : Int) < (r.length : Int)) = true := decide_eq_true (by omega)
    have he := List.getElem?_eq_getElem hlt
    have htk : r.take (k + 1) = r.take k ++ [r[k]] := by rw [List.take_add_one, he]; rfl
    generalize r[k] = e at *
    obtain ⟨be, oe, rfl, hbe, c0, c1⟩ := (HIn.out.same hled.same (fun _ h => h)).cell he
    obtain ⟨v0, v1, v2, v3, _⟩ := HOk.out.1.at_ he
    obtain ⟨e1, e2⟩ := e
    simp only at c0 c1 v0 v1 v2 v3
    obtain ⟨q, hq⟩ : ∃ q : Nat, e1 = q := ⟨e1.toNat, by omega⟩
    obtain ⟨v, hv⟩ : ∃ v : Nat, e2 = v := ⟨e2.toNat, by omega⟩
    subst hq hv
    have hqn : q < n := by omega
    have hv16 : v < 16 := by omega
    have hqs : q < p.sets.length := by omega
    have hs := List.getElem?_eq_getElem hqs
    have hswf := HOk.out.2 _ (List.getElem_mem hqs)
    have hsh : setHas p q b = Hd.has ⟨0, p.sets[q].1, p.sets[q].2.1, p.sets[q].2.2.1, p.sets[q].2.2.2, 0, 0, 0, false⟩ b := by unfold setHas; rw [hs]
    have hmem : ∀ z, z ∈ N ∨ leads p m b (r.take (k + 1)) z = true ↔ (z ∈ N' ∨ (z = q ∧ v.testBit m = true ∧ setHas p q b = true)) := fun z => by
      rw [htk, leads_snoc, hled.mem z]
      simp only [Bool.or_eq_true, Bool.and_eq_true, beq_iff_eq, Int.toNat_natCast]
      constructor
      · rintro (h | h | ⟨h1, h2, h3⟩)
        · exact .inl (.inl h)
        · exact .inl (.inr h)
        · obtain rfl : z = q := by omega
          exact .inr ⟨rfl, h2, h3⟩
      · rintro ((h | h) | ⟨rfl, h2, h3⟩)
        · exact .inl h
        · exact .inr (.inl h)
        · exact .inr (.inr ⟨rfl, h2, h3⟩)
    have henv := HE.out.same hled.same
    have HM := hide hmem
    have HL := hide hled
    have hNr := Nat.le_trans hNy hled.below.size
    clear hmem htk hled he
    have hz := hide (Blk.new wr 73 #[.int .i64 0, .int .i64 0])
    go_wp2_with (refine wpList_store_row rfl _ _ _ rfl wr.heap.size 0 _ _ _ rfl rfl hz.out Tryd.sizeEdge (by simp) (by simp [Value.oneCell']) ?_)
    intro w2 hrow2 hg2 hz2
    have hrow := hrow2.out
    rw [splice_full (by rfl)] at hrow
    have hb2 : Below wr.heap.size wr w2 := below_grew ((Below.refl wr.heap.size wr).alloc (Nat.le_refl _) _) hg2 (Nat.le_refl _) (fun g hg => by injection hg with hg; omega)
    clear hrow2 hg2 hz2 hz c0 c1
    generalize p.sets[q] = s at *
    obtain ⟨s0, s1, s2, s3⟩ := s
    simp only at hsh hswf
    obtain ⟨bs, os, es, hbs, z0, z1, z2, z3⟩ := henv.sets.cell hs
    have heN : wr.heap.size < w2.heap.size := hrow.lt
    have hbK : ∀ x : Later w2, Same (Keep gi bn bN) wr x.val := fun x => ((same_of_below hb2).mono fun b h => Nat.lt_of_lt_of_le h.1 hNr).trans ((same_of_below x.2).mono fun b h => Nat.lt_of_lt_of_le h.1 (Nat.le_trans hNr (Nat.le_of_lt heN)))
    have hbi : ∀ x : Later w2, BoRow x.val gi n (fun q => decide (q ∈ N')) := fun x => (HL.out.row.next hb2).next x.2
    have q0 := fun (x : Later w2) => (henv.cw.same (hbK x) henv.kw).cell
    have q1 := fun (x : Later w2) => (henv.cm.same (hbK x) henv.km).cell
    have q2 := fun (x : Later w2) => (henv.cb.same (hbK x) henv.kb).cell
    have q3 := fun (x : Later w2) => (henv.cg.same (hbK x) henv.kg).cell
    have q4 := fun (x : Later w2) => (hrow.below x.2 hrow.lt).cell
    have q5 := fun (x : Later w2) => (hbi x).cell q hqn
    have y0 := fun (x : Later w2) => ((hbK x).cell (a := ⟨bs, os + q * 4, none⟩) hbs).trans z0
    have y1 := fun (x : Later w2) => ((hbK x).cell (a := ⟨bs, os + q * 4 + 1, none⟩) hbs).trans z1
    have y2 := fun (x : Later w2) => ((hbK x).cell (a := ⟨bs, os + q * 4 + 2, none⟩) hbs).trans z2
    have y3 := fun (x : Later w2) => ((hbK x).cell (a := ⟨bs, os + q * 4 + 3, none⟩) hbs).trans z3
    have HLT := hide (fun (x : Later w2) => HL.out.below.trans ((hb2.trans (x.2.mono hb2.size)).mono (Nat.le_trans h0N hNr)))
    have HSM := hide (fun (x : Later w2) => HL.out.same.trans (hbK x))
    have hopen := hide (fun (x : Later w2) => (open_any v m hv16 hm x.val).mono fun e w' h => (⟨h.1, h.2 ▸ Below.refl _ _⟩ : e = .returned (.bool (v.testBit m)) ∧ Below x.val.heap.size x.val w'))
    have hhas := hide (fun (x : Later w2) => has_any s0 s1 s2 s3 b hb x.val hswf.1 hswf.2.1 hswf.2.2.1 hswf.2.2.2)
    rw [← hsh] at hhas
    have hnx := fun (x : Later w2) => NextIs.later HL.out.next hb2 x
    have HENV := hide (And.intro henv (And.intro hrow (And.intro hnx (And.intro hbi hbK))))
    rw [es] at q3
    obtain ⟨inq, hinq⟩ : ∃ t, t = decide (q ∈ N') := ⟨_, rfl⟩
    obtain ⟨opn, hopn⟩ : ∃ t, t = v.testBit m := ⟨_, rfl⟩
    obtain ⟨has, hhs⟩ : ∃ t, t = setHas p q b := ⟨_, rfl⟩
    rw [← hinq] at q5
    rw [← hopn] at hopen
    rw [← hhs] at hhas
    have HQ := hide (And.intro hinq (And.intro hopn hhs))
    clear hinq hopn hhs henv hrow hb2 hbi hbK hnx z0 z1 z2 z3 hs hsh hswf
    generalize wr.heap.size = ge at *
    cases inq with
    | true =>
      go_upto_region 3 with fail
      refine wp_region_later (by kernel_rfl) (by kernel_rfl) ?_
      repeat (go_big_quiet_step (first | exact calls_later (hopen.out _) | exact calls_later (hhas.out _)))
      refine wpQuiet_nil ?_
      rintro w' ⟨x, rfl⟩
      clear q0 q1 q2 q3 q4 q5 y0 y1 y2 y3
      go_wp2_with fail
      go_roundw
      case rel =>
        refine ⟨k + 1, N', by go_num, hlt, ⟨HENV.out.2.2.1 x, HENV.out.2.2.2.1 x, HL.out.nodup, HL.out.lt, fun z => ?_, HLT.out x, HSM.out x⟩⟩
        rw [HM.out z]
        constructor
        · exact .inl
        · rintro (h | ⟨rfl, h2, h3⟩)
          · exact h
          · exact of_decide_eq_true (HQ.out.1.symm)
      case measure => simp [intOf]; omega
    | false =>
    cases opn with
    | false =>
      go_upto_region 3 with fail
      refine wp_region_later (by kernel_rfl) (by kernel_rfl) ?_
      repeat (go_big_quiet_step (first | exact calls_later (hopen.out _) | exact calls_later (hhas.out _)))
      refine wpQuiet_nil ?_
      rintro w' ⟨x, rfl⟩
      clear q0 q1 q2 q3 q4 q5 y0 y1 y2 y3
      go_wp2_with fail
      go_roundw
      case rel =>
        refine ⟨k + 1, N', by go_num, hlt, ⟨HENV.out.2.2.1 x, HENV.out.2.2.2.1 x, HL.out.nodup, HL.out.lt, fun z => ?_, HLT.out x, HSM.out x⟩⟩
        rw [HM.out z]
        constructor
        · exact .inl
        · rintro (h | ⟨rfl, h2, h3⟩)
          · exact h
          · rw [← HQ.out.2.1] at h2; cases h2
      case measure => simp [intOf]; omega
    | true =>
    cases has with
    | false =>
      go_upto_region 3 with fail
      refine wp_region_later (by kernel_rfl) (by kernel_rfl) ?_
      repeat (go_big_quiet_step (first | exact calls_later (hopen.out _) | exact calls_later (hhas.out _)))
      refine wpQuiet_nil ?_
      rintro w' ⟨x, rfl⟩
      clear q0 q1 q2 q3 q4 q5 y0 y1 y2 y3
      go_wp2_with fail
      go_roundw
      case rel =>
        refine ⟨k + 1, N', by go_num, hlt, ⟨HENV.out.2.2.1 x, HENV.out.2.2.2.1 x, HL.out.nodup, HL.out.lt, fun z => ?_, HLT.out x, HSM.out x⟩⟩
        rw [HM.out z]
        constructor
        · exact .inl
        · rintro (h | ⟨rfl, h2, h3⟩)
          · exact h
          · rw [← HQ.out.2.2] at h3; cases h3
      case measure => simp [intOf]; omega
    | true =>
      go_upto_region 3 with fail
      refine wp_region_later (by kernel_rfl) (by kernel_rfl) ?_
      repeat (go_big_quiet_step (first | exact calls_later (hopen.out _) | exact calls_later (hhas.out _)))
      refine wpQuiet_nil ?_
      rintro w' ⟨x, rfl⟩
      clear y0 y1 y2 y3
      have hgne : gi ≠ ge := (HENV.out.2.2.2.1 x).ne (HENV.out.2.1.below x.2 HENV.out.2.1.lt) (by decide)
      go_upto_region 4 with fail
      refine wp_region_mix (fun y' => Below x.val.heap.size x.val y') [7] (by kernel_rfl) (fun hcl => ?_)
      have hS : Below x.val.heap.size x.val x.val.drew := (Below.refl _ _).drew
      refine wpAnyT_take (i := 0) hcl rfl (by kernel_rfl) (v := ?_) (fun _ _ _ h => h) hS (Or.inl ⟨rfl, fun w' hS => ?_⟩) (fun hcl => ?_)
      rotate_left
      · skip
        have r0 := q0 ⟨w', x.2.trans (hS.mono x.2.size)⟩
        go_simp
        with_reducible rfl
      simp only [List.getElem_toArray, List.getElem_cons_zero, List.getElem_cons_succ, Act.put, List.setIfInBounds_toArray, List.set_cons_zero, List.set_cons_succ]
      refine wpAnyT_free (i := 1) hcl rfl (by kernel_rfl) (v := ?_) (fun _ _ _ h => h) hS (Or.inl ⟨rfl, fun w' _ => ?_⟩) (fun hcl => ?_)
      rotate_left
      · go_simp
        with_reducible rfl
      simp only [List.getElem_toArray, List.getElem_cons_zero, List.getElem_cons_succ, Act.put, List.setIfInBounds_toArray, List.set_cons_zero, List.set_cons_succ]
      refine wpAnyT_free (i := 2) hcl rfl (by kernel_rfl) (v := ?_) (fun _ _ _ h => h) hS (Or.inl ⟨rfl, fun w' _ => ?_⟩) (fun hcl => ?_)
      rotate_left
      · go_simp
        with_reducible rfl
      simp only [List.getElem_toArray, List.getElem_cons_zero, List.getElem_cons_succ, Act.put, List.setIfInBounds_toArray, List.set_cons_zero, List.set_cons_succ]
      refine wpAnyT_take (i := 3) hcl rfl (by kernel_rfl) (v := ?_) (fun _ _ _ h => h) hS (Or.inl ⟨rfl, fun w' hS => ?_⟩) (fun hcl => ?_)
      rotate_left
      · skip
        have r3 := q3 ⟨w', x.2.trans (hS.mono x.2.size)⟩
        go_simp
        with_reducible rfl
      simp only [List.getElem_toArray, List.getElem_cons_zero, List.getElem_cons_succ, Act.put, List.setIfInBounds_toArray, List.set_cons_zero, List.set_cons_succ]
      refine wpAnyT_free (i := 4) hcl rfl (by kernel_rfl) (v := ?_) (fun _ _ _ h => h) hS (Or.inl ⟨rfl, fun w' _ => ?_⟩) (fun hcl => ?_)
      rotate_left
      · go_simp
        with_reducible rfl
      simp only [List.getElem_toArray, List.getElem_cons_zero, List.getElem_cons_succ, Act.put, List.setIfInBounds_toArray, List.set_cons_zero, List.set_cons_succ]
      refine wpAnyT_take (i := 5) hcl rfl (by kernel_rfl) (v := ?_) (fun _ _ _ h => h) hS (Or.inl ⟨rfl, fun w' hS => ?_⟩) (fun hcl => ?_)
      rotate_left
      · skip
        have r4 := q4 ⟨w', x.2.trans (hS.mono x.2.size)⟩
        go_simp
        with_reducible rfl
      simp only [List.getElem_toArray, List.getElem_cons_zero, List.getElem_cons_succ, Act.put, List.setIfInBounds_toArray, List.set_cons_zero, List.set_cons_succ]
      refine wpAnyT_free (i := 6) hcl rfl (by kernel_rfl) (v := ?_) (fun _ _ _ h => h) hS (Or.inl ⟨rfl, fun w' _ => ?_⟩) (fun hcl => ?_)
      rotate_left
      · go_simp
        with_reducible rfl
      simp only [List.getElem_toArray, List.getElem_cons_zero, List.getElem_cons_succ, Act.put, List.setIfInBounds_toArray, List.set_cons_zero, List.set_cons_succ]
      refine wpAnyT_last (i := 7) hcl rfl (by kernel_rfl) (by kernel_rfl) (fun hcl => ?_)
      simp only [List.getElem_toArray, List.getElem_cons_zero, List.getElem_cons_succ, Act.put, List.setIfInBounds_toArray, List.set_cons_zero, List.set_cons_succ]
      have c7 := q5 ⟨x.val.drew, x.2.trans (hS.mono x.2.size)⟩
      have hro := HENV.out.2.2.2.1 ⟨x.val.drew, x.2.trans (hS.mono x.2.size)⟩
      have hfz := hro.frozen
      have HRO := hide hro
      clear hro
      go_wp2_with fail
      refine wpAnyT_done (by kernel_rfl) ?_ _
      clear c7 hfz
      obtain ⟨nv, hbn, hon⟩ := HENV.out.2.2.1 x
      have hro := HENV.out.2.2.2.1 x
      have hbe := HENV.out.2.1.below x.2 HENV.out.2.1.lt
      have hngi : bn ≠ gi := fun e => (hro.ne hbn (by decide)) e.symm
      have hdr : Below (x.val.setCell ⟨gi, q, none⟩ (.bool true)).heap.size (x.val.setCell ⟨gi, q, none⟩ (.bool true)) (x.val.setCell ⟨gi, q, none⟩ (.bool true)).drew := (Below.refl _ _).drew
      have hrow := (hro.set q true hqn).next hdr
      replace hbn := (hbn.far (p := ⟨gi, q, none⟩) hngi (.bool true)).nxt hdr
      replace hbe := (hbe.far (p := ⟨gi, q, none⟩) (fun e => hgne e.symm) (.bool true)).nxt hdr
      have hon1 : OwnInts bN (x.val.setCell ⟨gi, q, none⟩ (.bool true)) nv _ := hon.same (ok := fun b => b ≠ gi) ((Same.refl _ _).set (fun h => h rfl) _) (fun g hg e => by have := (World.ownsRow.lt hon g hg).1; omega)
      replace hon := hon1.below hdr (Nat.le_refl _)
      have hbel : Below B0 y (x.val.setCell ⟨gi, q, none⟩ (.bool true)).drew := ((HLT.out x).setCell h0i _).drew
      have hsam : Same (Keep gi bn bN) y (x.val.setCell ⟨gi, q, none⟩ (.bool true)).drew := ((HSM.out x).set (fun h => h.2.1 rfl) _).trans ((same_of_below ((Below.refl (x.val.setCell ⟨gi, q, none⟩ (.bool true)).heap.size _).drew)).mono fun b hb => by
        have := hb.1
        have h1 := (HLT.out x).size
        have h2 : x.val.heap.size = (x.val.setCell ⟨gi, q, none⟩ (.bool true)).heap.size := by simp
        omega)
      clear hS HRO hro hdr hon1
      generalize (x.val.setCell ⟨gi, q, none⟩ (.bool true)).drew = W at *
      have hNW : bN ≤ W.heap.size := Nat.le_trans hNy hbel.size
      have cn := hbn.cell
      have ce := hbe.cell
      have hlen : (N'.map fun q : Nat => (q : Int)).length < 1000000 := by
        have := nodup_len n N' HL.out.nodup HL.out.lt
        rw [List.length_map]
        omega
      have hoA := hide (hon.below ((Below.refl W.heap.size W).alloc (Nat.le_refl _) (.cells #[.int .i64 (q : Int)] 3)) (Nat.le_refl _))
      have hown : ∀ g, nv.ownBlock = some g → bN ≤ g := fun g hg => (World.ownsRow.lt hon g hg).1
      have HW := hide (And.intro hrow (And.intro hbel (And.intro hsam (And.intro hbn hown))))
      clear hrow hbel hsam hbn hon hbe hown
      go_wp2_with (at_builtin; refine wpList_append_int rfl _ _ rfl bN _ _ rfl hoA.out (q : Int) W.heap.size 1 rfl (Blk.new _ _ _) hlen (by simp; omega) ?_)
      intro v' w5 hown5 hg5
      obtain ⟨A5, c5, rfl, _, _⟩ := hown5.form
      have hl5 : ((N'.map fun q : Nat => (q : Int)) ++ [(q : Int)]).length = N'.length + 1 := by simp
      rw [hl5] at hown5 ⊢
      clear hl5
      have hal : Same (fun b => b < W.heap.size) W (W.alloc (.cells #[.int .i64 (q : Int)] 3)) := same_of_below ((Below.refl W.heap.size W).alloc (Nat.le_refl _) _)
      have hs5 : Same (fun b => b < bN) W w5 := fun b hb => (hg5.block b (by simp; omega) (fun e => by have := HW.out.2.2.2.2 b e.symm; omega)).trans (hal b (by omega))
      have hbn5 := HW.out.2.2.2.1.same hs5 hnN
      have hb5 : Below B0 y w5 := below_grew (HW.out.2.1.alloc (by have := HW.out.2.1.size; omega) (.cells #[.int .i64 (q : Int)] 3)) hg5 (by omega) (fun g hg => by have := HW.out.2.2.2.2 g hg; omega)
      have hfn := hbn5.frozen
      have cn5 := hbn5.cell
      have H5 := hide (And.intro hown5 (And.intro hs5 (And.intro hbn5 hb5)))
      clear hown5 hg5 hal hs5 hbn5 hb5 hoA cn ce
      go_wp2_with fail
      go_roundw
      case rel =>
        refine ⟨k + 1, N' ++ [q], by go_num, hlt, ⟨⟨_, heap_setCell_same w5 bn 0 _ _ _ H5.out.2.2.1, ?_⟩, ?_, ?_, ?_, fun z => ?_, H5.out.2.2.2.setCell h0n _, ?_⟩⟩
        · rw [List.map_append]
          exact H5.out.1.same (ok := fun b => b ≠ bn) ((Same.refl _ _).set (fun h => h rfl) _) (fun g hg e => by have := (World.ownsRow.lt H5.out.1 g hg).1; omega)
        · refine ((HW.out.1.same H5.out.2.1 hiN).far (fun e => hngi e.symm) _).congr fun i hi => ?_
          by_cases h : i = q
          · simp [h]
          · simp [h]
        · exact List.nodup_append.2 ⟨HL.out.nodup, by simp, fun a ha b hb e => by
            have : b = q := by simpa using hb
            rw [e, this] at ha
            exact absurd (HQ.out.1.trans (decide_eq_true ha)) (by decide)⟩
        · intro z hz
          rcases List.mem_append.1 hz with h | h
          · exact HL.out.lt z h
          · have : z = q := by simpa using h
            omega
        · rw [HM.out z, List.mem_append]
          constructor
          · rintro (h | h)
            · exact .inl h
            · exact .inr ⟨by simpa using h, HQ.out.2.1.symm, HQ.out.2.2.symm⟩
          · rintro (h | ⟨h, _⟩)
            · exact .inl h
            · exact .inr (by simp [h])
        · exact (HW.out.2.2.1.trans (H5.out.2.1.mono fun b h => h.1)).set (fun h => h.2.2 rfl) _
      case measure => simp [intOf]; omega
end Go.Proofs.YtlomjepemnlliaaDoor
