/- Strs20: strings.Repeat, strings.LastIndex: their contracts off the shelf. (Printed by gen_strs20.py.)
Only20: need.only, need.repeated, need.Only. (Printed by gen_only20.py.) -/
import Derived.Test.YtbbhobojghmkpaaDoorProg
import Derived.Test.YtbbhobojghmkpaaDoorMem
import Derived.Test.YtbbhobojghmkpaaDoorNeedP
import Derived.Shelf.Strings.Repeat
import Derived.Shelf.Strings.LastIndexAll
import Derived.Test.YtbbhobojghmkpaaDoorOctCount
import Derived.Test.YtbbhobojghmkpaaDoorMake2
import Derived.Laws.IdiomStrings
set_option linter.unusedSimpArgs false
set_option linter.unusedVariables false
set_option linter.unnecessarySimpa false

/-! ## Strs20 -/
namespace Go.Proofs.YtbbhobojghmkpaaDoor
open Go.RowKit

def strRen20 : Go.Shelf.Ren := ⟨fun | 99 => 128 | 105 => 109 | 148 => 54 | 165 => 129 | 166 => 130 | 169 => 132 | 170 => 131 | 206 => 138 | 212 => 127 | 222 => 91 | 223 => 92 | 240 => 139 | 241 => 140 | 263 => 136 | 264 => 137 | 269 => 115 | 276 => 141 | 277 => 142 | n => n, fun | 0 => 0 | 3 => 3 | 4 => 4 | 5 => 5 | 9 => 9 | 20 => 20 | 37 => 91 | 46 => 87 | 51 => 142 | 53 => 22 | 70 => 155 | 72 => 157 | 75 => 49 | 76 => 159 | 80 => 161 | 109 => 153 | 127 => 165 | 146 => 143 | 148 => 163 | 164 => 166 | n => n, fun n => n⟩
theorem repLays : Lays.n105 Tryd.prog strRen20 where
  mixed := by kernel_rfl
  f99 := Tryd.func128.trans (congrArg some (by kernel_rfl))
  f105 := Tryd.func109.trans (congrArg some (by kernel_rfl))
  f165 := Tryd.func129.trans (congrArg some (by kernel_rfl))
  f166 := Tryd.func130.trans (congrArg some (by kernel_rfl))
  f169 := Tryd.func132.trans (congrArg some (by kernel_rfl))
  f170 := Tryd.func131.trans (congrArg some (by kernel_rfl))
  f206 := Tryd.func138.trans (congrArg some (by kernel_rfl))
  f212 := Tryd.func127.trans (congrArg some (by kernel_rfl))
  f240 := Tryd.func139.trans (congrArg some (by kernel_rfl))
  f241 := Tryd.func140.trans (congrArg some (by kernel_rfl))
  f263 := Tryd.func136.trans (congrArg some (by kernel_rfl))
  f264 := Tryd.func137.trans (congrArg some (by kernel_rfl))
  f276 := Tryd.func141.trans (congrArg some (by kernel_rfl))
  f277 := Tryd.func142.trans (congrArg some (by kernel_rfl))
  t0 := Tryd.underlying0
  a0 := Tryd.isAgg0
  z0 := Tryd.sizeOf0
  v0 := Tryd.zeroValue0
  t3 := Tryd.underlying3
  a3 := Tryd.isAgg3
  z3 := Tryd.sizeOf3
  v3 := Tryd.zeroValue3
  t4 := Tryd.underlying4
  a4 := Tryd.isAgg4
  z4 := Tryd.sizeOf4
  v4 := Tryd.zeroValue4
  t5 := Tryd.underlying5
  a5 := Tryd.isAgg5
  z5 := Tryd.sizeOf5
  v5 := Tryd.zeroValue5
  t9 := Tryd.underlying9
  a9 := Tryd.isAgg9
  z9 := Tryd.sizeOf9
  v9 := Tryd.zeroValue9
  t20 := Tryd.underlying20
  a20 := Tryd.isAgg20
  z20 := Tryd.sizeOf20
  v20 := Tryd.zeroValue20
  t37 := Tryd.underlying91
  a37 := Tryd.isAgg91
  z37 := Tryd.sizeOf91
  v37 := Tryd.zeroValue91
  t46 := Tryd.underlying87
  a46 := Tryd.isAgg87
  z46 := Tryd.sizeOf87
  v46 := Tryd.zeroValue87
  t51 := Tryd.underlying142
  a51 := Tryd.isAgg142
  z51 := Tryd.sizeOf142
  v51 := Tryd.zeroValue142
  t53 := Tryd.underlying22
  a53 := Tryd.isAgg22
  z53 := Tryd.sizeOf22
  v53 := Tryd.zeroValue22
  t70 := Tryd.underlying155
  a70 := Tryd.isAgg155
  z70 := Tryd.sizeOf155
  v70 := Tryd.zeroValue155
  t72 := Tryd.underlying157
  a72 := Tryd.isAgg157
  z72 := Tryd.sizeOf157
  v72 := Tryd.zeroValue157
  t75 := Tryd.underlying49
  a75 := Tryd.isAgg49
  z75 := Tryd.sizeOf49
  v75 := Tryd.zeroValue49
  t76 := Tryd.underlying159
  a76 := Tryd.isAgg159
  z76 := Tryd.sizeOf159
  v76 := Tryd.zeroValue159
  t109 := Tryd.underlying153
  a109 := Tryd.isAgg153
  z109 := Tryd.sizeOf153
  v109 := Tryd.zeroValue153
  t127 := Tryd.underlying165
  a127 := Tryd.isAgg165
  z127 := Tryd.sizeOf165
  v127 := Tryd.zeroValue165
  t146 := Tryd.underlying143
  a146 := Tryd.isAgg143
  z146 := Tryd.sizeOf143
  v146 := Tryd.zeroValue143
  t148 := Tryd.underlying163
  a148 := Tryd.isAgg163
  z148 := Tryd.sizeOf163
  v148 := Tryd.zeroValue163
  t164 := Tryd.underlying166
  a164 := Tryd.isAgg166
  z164 := Tryd.sizeOf166
  v164 := Tryd.zeroValue166
theorem lastLays : Lays.n148 Tryd.prog strRen20 where
  mixed := by kernel_rfl
  f148 := Tryd.func54.trans (congrArg some (by kernel_rfl))
  f222 := Tryd.func91.trans (congrArg some (by kernel_rfl))
  f223 := Tryd.func92.trans (congrArg some (by kernel_rfl))
  f269 := Tryd.func115.trans (congrArg some (by kernel_rfl))
  t3 := Tryd.underlying3
  a3 := Tryd.isAgg3
  z3 := Tryd.sizeOf3
  v3 := Tryd.zeroValue3
  t4 := Tryd.underlying4
  a4 := Tryd.isAgg4
  z4 := Tryd.sizeOf4
  v4 := Tryd.zeroValue4
  t5 := Tryd.underlying5
  a5 := Tryd.isAgg5
  z5 := Tryd.sizeOf5
  v5 := Tryd.zeroValue5
  t9 := Tryd.underlying9
  a9 := Tryd.isAgg9
  z9 := Tryd.sizeOf9
  v9 := Tryd.zeroValue9
  t46 := Tryd.underlying87
  a46 := Tryd.isAgg87
  z46 := Tryd.sizeOf87
  v46 := Tryd.zeroValue87
  t51 := Tryd.underlying142
  a51 := Tryd.isAgg142
  z51 := Tryd.sizeOf142
  v51 := Tryd.zeroValue142
  t146 := Tryd.underlying143
  a146 := Tryd.isAgg143
  z146 := Tryd.sizeOf143
  v146 := Tryd.zeroValue143
theorem repExtra : Builder.Extra Tryd.prog strRen20 where
  sizeBuilder := by kernel_rfl
  liesBuilder := by kernel_rfl
  t5 := Tryd.underlying5
  a5 := Tryd.isAgg5
  z5 := Tryd.sizeOf5
  v5 := Tryd.zeroValue5
  infoByte := by kernel_rfl
  cellsByte := by kernel_rfl
  sizeByte := by kernel_rfl
  neB5 := by decide
theorem repeat_any (s : ByteArray) (n : Nat) (w : World) (hn : n ≤ 9223372036854775807) (hl : s.size * n ≤ 140737488355328) :
    Calls Tryd.prog 109 #[.string s, .int .i64 (n : Int)] w fun e w' => e = .returned (.string (rept s n)) ∧ Below w.heap.size w w' := Any.strings_Repeat repLays repExtra s n w hn hl
theorem lastIndex_any (s sub : ByteArray) (w : World) (hs : s.size < 4611686018427387904) :
    Calls Tryd.prog 54 #[.string s, .string sub] w fun e w' => e = .returned (.int .i64 (Lib.lastIndex s.data.toList sub.data.toList)) ∧ w' = w := Any.strings_LastIndex lastLays s sub hs w
end Go.Proofs.YtbbhobojghmkpaaDoor

/-! ## Only20 -/
namespace Go.Proofs.YtbbhobojghmkpaaDoor
open Go.RowKit

/-- A text or none, as two results. -/
def optV (o : Option ByteArray) : Value := .tuple #[.string (o.getD ⟨#[]⟩), .bool o.isSome]
theorem wd_has (h : Hd) (hw : h.wf) : ((wd h.has 0 : Nat) : Int) = h.s0 ∧ ((wd h.has 1 : Nat) : Int) = h.s1 ∧ ((wd h.has 2 : Nat) : Int) = h.s2 ∧ ((wd h.has 3 : Nat) : Int) = h.s3 := by
  have key : ∀ k, k < 4 → IsU64 (h.word k) → ((wd h.has k : Nat) : Int) = h.word k := fun k hk hu => by
    have : (h.word k).toNat = wd h.has k := wd_eq (by have := hu.1; have := hu.2; omega) fun j hj => by
      unfold Hd.has
      rw [show (64 * k + j) / 64 = k by omega, show (64 * k + j) % 64 = j by omega]
    rw [← this, Int.toNat_of_nonneg hu.1]
  obtain ⟨_, h0, h1, h2, h3, _⟩ := hw
  exact ⟨key 0 (by decide) h0, key 1 (by decide) h1, key 2 (by decide) h2, key 3 (by decide) h3⟩
theorem setV_has (h : Hd) (hw : h.wf) : setV h.has = .agg #[.int .u64 h.s0, .int .u64 h.s1, .int .u64 h.s2, .int .u64 h.s3] := by
  obtain ⟨h0, h1, h2, h3⟩ := wd_has h hw
  unfold setV setC
  rw [h0, h1, h2, h3]
theorem T.form_kind {t : T} (hf : t.form = true) : t.hd.kind = 1 ∨ t.hd.kind = 3 ∨ t.hd.kind = 4 ∨ t.hd.kind = 2 ∨ t.hd.kind = 5 ∨ t.hd.kind = 6 ∨ (t.hd.kind = 7 ∧ t.subs.length = 1) ∨ (t.hd.kind = 8 ∧ t.subs.length = 1) := by
  rw [T.form_eq, Bool.and_eq_true] at hf
  have h1 := hf.1
  unfold Hd.formed at h1
  by_cases a : t.hd.kind = 1 ∨ t.hd.kind = 3 ∨ t.hd.kind = 4
  · omega
  · by_cases b : t.hd.kind = 2
    · omega
    · by_cases d : t.hd.kind = 5 ∨ t.hd.kind = 6
      · omega
      · by_cases e : t.hd.kind = 7
        · rw [if_neg a, if_neg b, if_neg d, if_pos e] at h1
          simp at h1
          omega
        · by_cases f : t.hd.kind = 8
          · rw [if_neg a, if_neg b, if_neg d, if_neg e, if_pos f] at h1
            simp at h1
            omega
          · rw [if_neg a, if_neg b, if_neg d, if_neg e, if_neg f] at h1
            cases h1
theorem T.form_mem_sub {t : T} (hf : t.form = true) : ∀ s ∈ t.subs, s.form = true := fun s hs => by
  rw [T.form_eq, Bool.and_eq_true] at hf
  exact TL.form_mem hf.2 hs
theorem T.wf_sub {t : T} (h : t.wf) : ∀ s ∈ t.subs, s.wf := fun s hs => TL.wf_mem (T.wf_eq.1 h).2.2 hs
theorem firstB_lt (S : Nat → Bool) : firstB S < 256 := by
  unfold firstB
  cases h : (List.range 256).find? S with
  | none => decide
  | some m => exact List.mem_range.1 (List.mem_of_find?_eq_some h)
theorem Hd.only_1 {h : Hd} (hk : h.kind = 1 ∨ h.kind = 3 ∨ h.kind = 4) (l : List (Option ByteArray)) : h.only l = some ⟨#[]⟩ := by
  rw [Hd.only, if_neg (by omega), if_neg (by omega), if_neg (by omega), if_neg (by omega), if_neg (by omega)]
theorem Hd.only_2 {h : Hd} (hk : h.kind = 2) (l : List (Option ByteArray)) : h.only l = if h.count = 1 then some ⟨#[h.first.toUInt8]⟩ else none := by rw [Hd.only, if_pos hk]
theorem Hd.only_7 {h : Hd} (hk : h.kind = 7) (l : List (Option ByteArray)) : h.only l = hd1 l := by rw [Hd.only, if_neg (by omega), if_pos hk]
theorem Hd.only_8 {h : Hd} (hk : h.kind = 8) (l : List (Option ByteArray)) : h.only l = if h.max = 0 then some ⟨#[]⟩ else repO h.min h.max (hd1 l) := by rw [Hd.only, if_neg (by omega), if_neg (by omega), if_pos hk]
theorem Hd.only_5 {h : Hd} (hk : h.kind = 5) (l : List (Option ByteArray)) : h.only l = seqO ⟨#[]⟩ l := by rw [Hd.only, if_neg (by omega), if_neg (by omega), if_neg (by omega), if_pos hk]
theorem Hd.only_6 {h : Hd} (hk : h.kind = 6) (l : List (Option ByteArray)) : h.only l = altO l := by rw [Hd.only, if_neg (by omega), if_neg (by omega), if_neg (by omega), if_neg (by omega), if_pos hk]
theorem one_byte (fb : Nat) (hb : fb < 256) (g : Nat) (y : World) (h : y.cell? ⟨g, 0, none⟩ = some (.int .u8 (fb : Int))) : (convert 91 9 (.slice (some ⟨g, 0, none⟩) 1 1)).run Tryd.prog y = .ok (.string ⟨#[fb.toUInt8]⟩) y := by
  refine run_convert_bytes_back y 91 9 5 ⟨g, 0, none⟩ 1 [fb.toUInt8] Tryd.underlying91 Tryd.underlying5 Tryd.underlying9 fun j hj => ?_
  obtain rfl : j = 0 := by simpa using hj
  rw [Addr.add_lit]
  simp only [Nat.add_zero, List.getElem_cons_zero]
  rw [h, show fb.toUInt8.toNat = fb from by simp [Nat.toUInt8]; omega]
/-- What a round of the alternatives has met. -/
def altJ : Nat → ByteArray → List (Option ByteArray) → Option ByteArray
  | 0, _, l => altO l
  | _ + 1, s, l => altO (some s :: l)
theorem altJ_none (k : Nat) (acc : ByteArray) (r : List (Option ByteArray)) : altJ k acc (none :: r) = none := by
  cases k with
  | zero => rfl
  | succ j =>
    show altO (some acc :: none :: r) = none
    rw [altO, if_neg (by simp)]
theorem altJ_first {k : Nat} (hk : k = 0) (acc x : ByteArray) (r : List (Option ByteArray)) : altJ k acc (some x :: r) = altJ (k + 1) x r := by subst hk; rfl
theorem altJ_same {k : Nat} (hk : k ≠ 0) (x : ByteArray) (r : List (Option ByteArray)) : altJ k x (some x :: r) = altJ (k + 1) x r := by
  obtain ⟨j, rfl⟩ : ∃ j, k = j + 1 := ⟨k - 1, by omega⟩
  show altO (some x :: some x :: r) = altO (some x :: r)
  rw [altO, altO]
  simp
theorem altJ_other {k : Nat} (hk : k ≠ 0) {acc x : ByteArray} (hne : x ≠ acc) (r : List (Option ByteArray)) : altJ k acc (some x :: r) = none := by
  obtain ⟨j, rfl⟩ : ∃ j, k = j + 1 := ⟨k - 1, by omega⟩
  show altO (some acc :: some x :: r) = none
  rw [altO, if_neg (by simp [hne])]
theorem toList_beq (x y : ByteArray) : (x.toList == y.toList) = decide (x = y) := by
  by_cases h : x = y
  · subst h; simp
  · rw [decide_eq_false h, beq_eq_false_iff_ne]
    intro e
    rw [ByteArray.toList_eq, ByteArray.toList_eq] at e
    exact h (ByteArray.ext (Array.toList_inj.1 e))

set_option maxRecDepth 100000 in
set_option maxHeartbeats 1000000 in
theorem repeated_of (kind s0 s1 s2 s3 num mn mx : Int) (bare : Bool) (s : T) (A : Option Addr) (c : Nat) (w : World) (hmn : 0 ≤ mn ∧ mn ≤ 255) (hs64 : ∀ x, s.only = some x → x.size ≤ 64) (hin : TL.In w (· < w.heap.size) [s] A)
    (H : ∀ (B : Option Addr) (c' : Nat) (y : World), Below w.heap.size w y → T.In y (· < y.heap.size) s B → Calls Tryd.prog 45 #[.agg (s.hd.cells (.slice B s.subs.length c')).toArray] y fun e w' => e = .returned (optV s.only) ∧ Below y.heap.size y w') :
    Calls Tryd.prog 82 #[.agg #[.int .i64 kind, .int .u64 s0, .int .u64 s1, .int .u64 s2, .int .u64 s3, .slice A 1 c, .int .i64 num, .int .i64 mn, .int .i64 mx, .bool bare]] w fun e w' => e = .returned (optV (if mx = 0 then some ⟨#[]⟩ else repO mn mx s.only)) ∧ Below w.heap.size w w' := by
  obtain ⟨res, hres⟩ : ∃ r, r = (if mx = 0 then some ⟨#[]⟩ else repO mn mx s.only) := ⟨_, rfl⟩
  rw [← hres]
  have HRES := hide hres
  clear hres
  obtain ⟨b, ofs, B, c', rfl, hbk, hcs, hsub⟩ := TL.In.at_ (i := 0) hin rfl
  have HX := hide (fun y hy hi => H B c' y hy hi)
  clear H
  have hbel := (Below.refl w.heap.size w).alloc (Nat.le_refl _) (.cells #[.int .i64 kind, .int .u64 s0, .int .u64 s1, .int .u64 s2, .int .u64 s3, .slice (some ⟨b, ofs, none⟩) 1 c, .int .i64 num, .int .i64 mn, .int .i64 mx, .bool bare] 27)
  have hb0 := Blk.new w 27 #[.int .i64 kind, .int .u64 s0, .int .u64 s1, .int .u64 s2, .int .u64 s3, .slice (some ⟨b, ofs, none⟩) 1 c, .int .i64 num, .int .i64 mn, .int .i64 mx, .bool bare]
  have hn := (hcs.same (same_of_below hbel) hbk).node
  have HI := hide (hsub.next hbel)
  simp only [Nat.zero_mul, Nat.add_zero] at hn
  obtain ⟨n0, n1, n2, n3, n4, n5, n6, n7, n8, n9⟩ := hn
  have H0 := hide (And.intro hb0 hbel)
  have c0 := hb0.cell
  clear hin hcs hsub hb0 hbel
  go_enter Tryd.func82, Tryd.ntmps82
  go_upto_region 1 with fail
  generalize (w.alloc (.cells #[.int .i64 kind, .int .u64 s0, .int .u64 s1, .int .u64 s2, .int .u64 s3, .slice (some ⟨b, ofs, none⟩) 1 c, .int .i64 num, .int .i64 mn, .int .i64 mx, .bool bare] 27)) = W at *
  by_cases h0 : mx = 0
  · have hq : (mx == 0) = true := by simp [h0]
    have HM := hide h0
    clear h0
    go_wp2_with fail
    refine bodyPost_ret (v := .tuple #[.string ⟨#[]⟩, .bool true]) (by simp [results, Tryd.results82, go_sem]) rfl ?_
    exact ⟨by rw [HRES.out, if_pos HM.out]; rfl, H0.out.2⟩
  · have hq : (mx == 0) = false := by rw [beq_eq_false_iff_ne]; exact h0
    have HM := hide h0
    clear h0
    go_wp2_with fail
    refine (HX.out W H0.out.2 HI.out).mono ?_
    rintro e w1 ⟨rfl, hb1⟩
    have H1 := hide (And.intro (H0.out.1.next hb1) (H0.out.2.trans (hb1.mono H0.out.2.size)))
    clear hb1 HX HI c0 n0 n1 n2 n3 n4 n5 n6 n7 n8 n9
    have c1 := H1.out.1.cell
    unfold optV
    have HS := hide hs64
    clear hs64
    generalize s.only = so at *
    cases so with
    | none =>
      go_wp2_with fail
      refine bodyPost_ret (v := .tuple #[.string ⟨#[]⟩, .bool false]) (by simp [results, Tryd.results82, go_sem]) rfl ?_
      exact ⟨by rw [HRES.out, if_neg HM.out]; rfl, H1.out.2⟩
    | some x =>
      simp only [Option.getD_some, Option.isSome_some]
      have hx64 := HS.out x rfl
      by_cases hz : x.size = 0
      · have hem : x.toList.isEmpty = true := by
          rw [size_zero hz, ByteArray.toList_eq]; rfl
        have HZ := hide hz
        clear hz
        go_wp2_with fail
        refine bodyPost_ret (v := .tuple #[.string ⟨#[]⟩, .bool true]) (by simp [results, Tryd.results82, go_sem]) rfl ?_
        exact ⟨by rw [HRES.out, if_neg HM.out, repO, if_pos HZ.out]; rfl, H1.out.2⟩
      · have hem : x.toList.isEmpty = false := by
          rw [ByteArray.toList_eq]
          cases hl : x.data.toList with
          | nil =>
            have h3 : x.data.toList.length = x.size := by simp
            rw [hl, List.length_nil] at h3
            omega
          | cons _ _ => rfl
        have HZ := hide hz
        clear hz
        have hmul : (mn * (x.size : Int)) ≤ 255 * 64 ∧ 0 ≤ mn * (x.size : Int) := by
          constructor
          · exact Int.mul_le_mul (by omega) (by omega) (by omega) (by omega)
          · exact Int.mul_nonneg hmn.1 (by omega)
        have hwm : IntKind.i64.wrap (mn * (x.size : Int)) = mn * (x.size : Int) := by
          generalize mn * (x.size : Int) = p at *
          simp [IntKind.wrap, IntKind.bits, IntKind.signed]; omega
        have hcnt : ((mn.toNat * x.size : Nat) : Int) = mn * (x.size : Int) := by
          rw [Int.natCast_mul, Int.toNat_of_nonneg hmn.1]
        have HR := hide (fun (y : World) => repeat_any x mn.toNat y (by omega) (by rw [Nat.mul_comm]; omega))
        have hmt : ((mn.toNat : Nat) : Int) = mn := Int.toNat_of_nonneg hmn.1
        rw [hmt] at HR
        clear hmt hcnt
        by_cases hmm : mx = mn
        · have hq2 : (mx == mn) = true := by simp [hmm]
          have HMM := hide hmm
          clear hmm
          by_cases hbig : 64 < mn * (x.size : Int)
          · have hd : decide (64 < mn * (x.size : Int)) = true := decide_eq_true hbig
            have HB := hide hbig
            clear hbig hmul
            go_wp2_with fail
            refine bodyPost_ret (v := .tuple #[.string ⟨#[]⟩, .bool false]) (by simp [results, Tryd.results82, go_sem]) rfl ?_
            exact ⟨by rw [HRES.out, if_neg HM.out, repO, if_neg HZ.out, if_pos (.inr HB.out)]; rfl, H1.out.2⟩
          · have hd : decide (64 < mn * (x.size : Int)) = false := decide_eq_false hbig
            have HB := hide hbig
            clear hbig hmul
            go_wp2_with fail
            refine (HR.out _).mono ?_
            rintro e w2 ⟨rfl, hb2⟩
            have H2 := hide (H1.out.2.trans (hb2.mono H1.out.2.size))
            clear hb2
            go_wp2_with fail
            refine bodyPost_ret (v := .tuple #[.string (rept x mn.toNat), .bool true]) (by simp [results, Tryd.results82, go_sem]) rfl ?_
            exact ⟨by rw [HRES.out, if_neg HM.out, repO, if_neg HZ.out, if_neg (by rintro (h | h); exact h HMM.out; have := HB.out; omega)]; rfl, H2.out⟩
        · have hq2 : (mx == mn) = false := by rw [beq_eq_false_iff_ne]; exact hmm
          have HMM := hide hmm
          clear hmm
          go_wp2_with fail
          refine bodyPost_ret (v := .tuple #[.string ⟨#[]⟩, .bool false]) (by simp [results, Tryd.results82, go_sem]) rfl ?_
          exact ⟨by rw [HRES.out, if_neg HM.out, repO, if_neg HZ.out, if_pos (.inl HMM.out)]; rfl, H1.out.2⟩
set_option maxRecDepth 100000 in
set_option maxHeartbeats 4000000 in
theorem only_any (N : Nat) : ∀ (t : T) (A : Option Addr) (c : Nat) (w : World), t.nodes ≤ N → N ≤ 1000000 → t.form = true → t.wf → Tab w → T.In w (· < w.heap.size) t A →
    Calls Tryd.prog 45 #[.agg (t.hd.cells (.slice A t.subs.length c)).toArray] w fun e w' => e = .returned (optV t.only) ∧ Below w.heap.size w w' := by
  induction N with
  | zero => intro t A c w h; have := t.nodes_pos; omega
  | succ N ih =>
    intro t A c w hN hM hf hwf hT hin
    have hkind := T.form_kind hf
    have hfs := T.form_mem_sub hf
    have hws := T.wf_sub hwf
    have hhw := (T.wf_eq.1 hwf).1
    have hmin := fun hk => T.form_min (h := t.hd) (l := t.subs) (by rw [T.eta]; exact hf) hk
    obtain ⟨h, l⟩ := t
    have hsz := TL.only_size l (T.form_sub hf)
    have hlen0 := T.length_lt (T.mk h l)
    obtain ⟨res, hres⟩ : ∃ r, r = (T.mk h l).only := ⟨_, rfl⟩
    rw [← hres]
    rw [T.only] at hres
    obtain ⟨kind, s0, s1, s2, s3, num, mn, mx, bare⟩ := h
    simp only [T.nodes, T.hd, T.subs, Hd.cells] at hlen0 hN hkind hfs hws hhw hmin ⊢
    have hbel := (Below.refl w.heap.size w).alloc (Nat.le_refl _) (.cells #[.int .i64 kind, .int .u64 s0, .int .u64 s1, .int .u64 s2, .int .u64 s3, .slice A l.length c, .int .i64 num, .int .i64 mn, .int .i64 mx, .bool bare] 27)
    have hb0 := Blk.new w 27 #[.int .i64 kind, .int .u64 s0, .int .u64 s1, .int .u64 s2, .int .u64 s3, .slice A l.length c, .int .i64 num, .int .i64 mn, .int .i64 mx, .bool bare]
    have H0 := hide (And.intro hb0 (And.intro hbel (hT.below hbel)))
    have hin2 := hin.next hbel
    have c0 := hb0.cell
    have HIH := hide (fun (s : T) (hs : s ∈ l) (B : Option Addr) (c' : Nat) (y : World) (hy : Tab y) (hi : T.In y (· < y.heap.size) s B) => ih s B c' y (by have := TL.nodes_mem hs; omega) (by omega) (hfs s hs) (hws s hs) hy hi)
    clear ih hf hwf hin hfs hws hT hb0 hbel
    rcases hkind with hk | hk | hk | hk | hk | hk | ⟨hk, hl1⟩ | ⟨hk, hl1⟩
    · subst hk
      have HR := hide (show res = some ⟨#[]⟩ by rw [hres]; exact Hd.only_1 (by simp) _)
      clear hres hmin hin2 hsz
      go_enter Tryd.func45, Tryd.ntmps45
      go_wp2_with fail
      refine bodyPost_ret (v := .tuple #[.string ⟨#[]⟩, .bool true]) (by simp [results, Tryd.results45, go_sem]) rfl ?_
      exact ⟨by rw [HR.out]; rfl, H0.out.2.1⟩
    · subst hk
      have HR := hide (show res = some ⟨#[]⟩ by rw [hres]; exact Hd.only_1 (by simp) _)
      clear hres hmin hin2 hsz
      go_enter Tryd.func45, Tryd.ntmps45
      go_wp2_with fail
      refine bodyPost_ret (v := .tuple #[.string ⟨#[]⟩, .bool true]) (by simp [results, Tryd.results45, go_sem]) rfl ?_
      exact ⟨by rw [HR.out]; rfl, H0.out.2.1⟩
    · subst hk
      have HR := hide (show res = some ⟨#[]⟩ by rw [hres]; exact Hd.only_1 (by simp) _)
      clear hres hmin hin2 hsz
      go_enter Tryd.func45, Tryd.ntmps45
      go_wp2_with fail
      refine bodyPost_ret (v := .tuple #[.string ⟨#[]⟩, .bool true]) (by simp [results, Tryd.results45, go_sem]) rfl ?_
      exact ⟨by rw [HR.out]; rfl, H0.out.2.1⟩
    · subst hk
      have e := setV_has ⟨2, s0, s1, s2, s3, num, mn, mx, bare⟩ hhw
      simp only at e
      have HFi := hide (fun (y : World) (hy : Tab y) => first5_any (Hd.has ⟨2, s0, s1, s2, s3, num, mn, mx, bare⟩) y hy)
      have HCo := hide (fun (y : World) => count5_any (Hd.has ⟨2, s0, s1, s2, s3, num, mn, mx, bare⟩) y)
      rw [e] at HFi HCo
      rw [Hd.only_2 rfl] at hres
      unfold Hd.count Hd.first at hres
      have hfl : firstB (Hd.has ⟨2, s0, s1, s2, s3, num, mn, mx, bare⟩) < 256 := firstB_lt _
      have hfe : ((List.range 256).find? (Hd.has ⟨2, s0, s1, s2, s3, num, mn, mx, bare⟩)).getD 0 = firstB (Hd.has ⟨2, s0, s1, s2, s3, num, mn, mx, bare⟩) := rfl
      rw [show (((List.range 256).find? fun b => Hd.has ⟨2, s0, s1, s2, s3, num, mn, mx, bare⟩ b).getD 0) = firstB (Hd.has ⟨2, s0, s1, s2, s3, num, mn, mx, bare⟩) from rfl] at hres
      clear e hfe hhw hmin hin2 hsz
      generalize firstB (Hd.has ⟨2, s0, s1, s2, s3, num, mn, mx, bare⟩) = fb at *
      generalize cntb (Hd.has ⟨2, s0, s1, s2, s3, num, mn, mx, bare⟩) 256 = cv at *
      generalize anyB (Hd.has ⟨2, s0, s1, s2, s3, num, mn, mx, bare⟩) = av at *
      have HR := hide hres
      clear hres
      go_enter Tryd.func45, Tryd.ntmps45
      go_wp2_with fail
      generalize (w.alloc (.cells #[.int .i64 2, .int .u64 s0, .int .u64 s1, .int .u64 s2, .int .u64 s3, .slice A l.length c, .int .i64 num, .int .i64 mn, .int .i64 mx, .bool bare] 27)) = W at *
      refine (HFi.out W H0.out.2.2).mono ?_
      rintro e w1 ⟨rfl, hb1⟩
      have H1 := hide (And.intro (H0.out.1.next hb1) (H0.out.2.1.trans (hb1.mono H0.out.2.1.size)))
      clear hb1 HFi c0
      have c1 := H1.out.1.cell
      go_wp2_with fail
      refine (HCo.out _).mono ?_
      rintro e w2 ⟨rfl, hb2⟩
      have H2 := hide (H1.out.2.trans (hb2.mono H1.out.2.size))
      clear hb2 c1
      by_cases hc : cv = 1
      · have hq : ((cv : Int) == 1) = true := by rw [hc]; rfl
        have HC := hide hc
        clear hc
        have hcv := one_byte fb hfl w2.heap.size (w2.alloc (.cells #[.int .u8 (fb : Int)] 5)) (by rw [(Blk.new w2 _ _).cell]; rfl)
        go_wp2_with fail
        refine bodyPost_ret (v := .tuple #[.string ⟨#[fb.toUInt8]⟩, .bool true]) (by simp [results, Tryd.results45, go_sem]) rfl ?_
        exact ⟨by rw [HR.out, if_pos HC.out]; rfl, H2.out.alloc H2.out.size _⟩
      · have hq : ((cv : Int) == 1) = false := by rw [beq_eq_false_iff_ne]; omega
        have HC := hide hc
        clear hc
        go_wp2_with fail
        refine bodyPost_ret (v := .tuple #[.string ⟨#[]⟩, .bool false]) (by simp [results, Tryd.results45, go_sem]) rfl ?_
        exact ⟨by rw [HR.out, if_neg HC.out]; rfl, H2.out⟩
    · subst hk
      have HR := hide hres.symm
      clear hres hmin
      have HS := hide hsz
      clear hsz
      go_enter Tryd.func45, Tryd.ntmps45
      go_upto_region 1 with fail
      generalize (w.alloc (.cells #[.int .i64 5, .int .u64 s0, .int .u64 s1, .int .u64 s2, .int .u64 s3, .slice A l.length c, .int .i64 num, .int .i64 mn, .int .i64 mx, .bool bare] 27)) = W at *
      go_wp2_with fail
      have HIN := hide hin2
      clear hin2 c0
      go_loopw [6, 50] (fun av kv wr => ∃ (k : Nat) (acc : ByteArray), kv = .int .i64 (k : Int) ∧ av = .string acc ∧ k ≤ l.length ∧ acc.size ≤ 64 ∧ seqO acc (TL.onlys (l.drop k)) = res ∧ Blk wr w.heap.size 27 #[.int .i64 5, .int .u64 s0, .int .u64 s1, .int .u64 s2, .int .u64 s3, .slice A l.length c, .int .i64 num, .int .i64 mn, .int .i64 mx, .bool bare] ∧ Below W.heap.size W wr ∧ Tab wr) (fun _ kv _ => l.length - (intOf kv).toNat)
      case atStart => exact ⟨0, ⟨#[]⟩, rfl, rfl, Nat.zero_le _, by decide, by rw [List.drop_zero, ← HR.out]; exact (Hd.only_5 rfl _).symm, H0.out.1, Below.refl _ _, H0.out.2.2⟩
      case round =>
        obtain ⟨k, acc, rfl, rfl, hk, hacc, hinv, hbx, hbel, hTb⟩ := hrel
        have HH := hide (And.intro hbx (And.intro hbel hTb))
        have HV := hide hinv
        have hzb0 := hbx.lt
        clear hinv hTb
        by_cases hlt : k < l.length
        case neg =>
          have g1 : decide ((k : Int) < (l.length : Int)) = false := decide_eq_false (by omega)
          have hke : k = l.length := by omega
          subst hke
          have HE := hide (show res = some acc by rw [← HV.out, List.drop_eq_nil_of_le (Nat.le_refl _)]; rfl)
          clear hbx hbel
          go_wp2_with fail
          refine bodyPost_ret (v := .tuple #[.string acc, .bool true]) (by simp [results, Tryd.results45, go_sem]) rfl ?_
          exact ⟨by rw [HE.out]; rfl, H0.out.2.1.trans (HH.out.2.1.mono H0.out.2.1.size)⟩
        case pos =>
          have g1 : decide ((k : Int) < (l.length : Int)) = true := decide_eq_true (by omega)
          have hs := List.getElem?_eq_getElem hlt
          obtain ⟨b, ofs, B, c', rfl, hbk, hcs, hsub⟩ := TL.In.at_ (T.In_iff.1 HIN.out) hs
          have hmem := List.getElem_mem hlt
          have hdrop : l.drop k = l[k] :: l.drop (k + 1) := List.drop_eq_getElem_cons hlt
          have heq := HV.out
          have hs64 := HS.out l[k] hmem
          have HX := hide (fun (y : World) (hy : Tab y) (hi : T.In y (· < y.heap.size) (l[k]'hlt) B) => HIH.out (l[k]'hlt) hmem B c' y hy hi)
          rw [hdrop, TL.onlys] at heq
          generalize l[k] = s at *
          obtain ⟨n0, n1, n2, n3, n4, n5, n6, n7, n8, n9⟩ := (hcs.same (same_of_below hbel) hbk).node
          have HQ := hide heq
          have hsub2 := hsub.next hbel
          have hzb := Blk.new wr 27 zeroCells
          have hal := (Below.refl wr.heap.size wr).alloc (Nat.le_refl _) (.cells zeroCells 27)
          unfold zeroCells at hzb hal
          have c0 := hbx.cell
          clear hs hcs heq hdrop hmem hsub HV hbx hbel
          go_wp2_with (first | refine wpList_store_row rfl _ _ _ rfl wr.heap.size 0 _ _ _ rfl rfl hzb Tryd.sizeNode (by simp) (by simp [Value.oneCell']) ?_)
          intro w5 hrow2 hg9 hz9
          have hrow := hrow2.out
          rw [splice_full (by rfl)] at hrow
          have hbE : Below wr.heap.size wr w5 := below_grew hal hg9 (Nat.le_refl _) (fun q hq => by rw [← Option.some.inj hq]; exact Nat.le_refl _)
          have c5 := hrow.cell
          have HH5 := hide (And.intro (HH.out.1.next hbE) (And.intro (HH.out.2.1.trans (hbE.mono HH.out.2.1.size)) (HH.out.2.2.below hbE)))
          have HI5 := hide (hsub2.next hbE)
          clear hrow2 hrow hg9 hz9 hal hzb hbE c0 n0 n1 n2 n3 n4 n5 n6 n7 n8 n9 hsub2 HH
          go_wp2_with fail
          refine (HX.out w5 HH5.out.2.2 HI5.out).mono ?_
          rintro e w6 ⟨rfl, hb6⟩
          have HH6 := hide (And.intro (HH5.out.1.next hb6) (And.intro (HH5.out.2.1.trans (hb6.mono HH5.out.2.1.size)) (HH5.out.2.2.below hb6)))
          have c0 := HH6.out.1.cell
          clear hb6 HX HI5 HH5 c5
          unfold optV
          have HS6 := hide hs64
          clear hs64
          generalize s.only = so at *
          cases so with
          | none =>
            have HE := hide (show res = none by rw [← HQ.out]; rfl)
            go_wp2_with fail
            refine bodyPost_ret (v := .tuple #[.string ⟨#[]⟩, .bool false]) (by simp [results, Tryd.results45, go_sem]) rfl ?_
            exact ⟨by rw [HE.out]; rfl, H0.out.2.1.trans (HH6.out.2.1.mono H0.out.2.1.size)⟩
          | some x =>
            simp only [Option.getD_some, Option.isSome_some]
            have hx64 := HS6.out x rfl
            by_cases hbig : 64 < (acc ++ x).size
            · have hd : decide (64 < (acc.size : Int) + (x.size : Int)) = true := decide_eq_true (by rw [app_size] at hbig; omega)
              have HE := hide (show res = none by rw [← HQ.out, seqO, if_pos hbig])
              clear hbig
              go_wp2_with fail
              refine bodyPost_ret (v := .tuple #[.string ⟨#[]⟩, .bool false]) (by simp [results, Tryd.results45, go_sem]) rfl ?_
              exact ⟨by rw [HE.out]; rfl, H0.out.2.1.trans (HH6.out.2.1.mono H0.out.2.1.size)⟩
            · have hd : decide (64 < (acc.size : Int) + (x.size : Int)) = false := decide_eq_false (by rw [app_size] at hbig; omega)
              have HB := hide hbig
              have HE := hide (show seqO (acc ++ x) (TL.onlys (l.drop (k + 1))) = res by rw [← HQ.out, seqO, if_neg hbig])
              clear hbig
              go_wp2_with fail
              go_roundw
              case rel => exact ⟨k + 1, acc ++ x, by go_num, rfl, hlt, by have := HB.out; omega, HE.out, HH6.out.1, HH6.out.2.1, HH6.out.2.2⟩
              case measure => simp [intOf]; omega
    · subst hk
      have HR := hide hres.symm
      clear hres hmin
      have HS := hide hsz
      clear hsz
      go_enter Tryd.func45, Tryd.ntmps45
      go_upto_region 1 with fail
      generalize (w.alloc (.cells #[.int .i64 6, .int .u64 s0, .int .u64 s1, .int .u64 s2, .int .u64 s3, .slice A l.length c, .int .i64 num, .int .i64 mn, .int .i64 mx, .bool bare] 27)) = W at *
      go_wp2_with fail
      have HIN := hide hin2
      clear hin2 c0
      go_loopw [6, 50] (fun av kv wr => ∃ (k : Nat) (acc : ByteArray), kv = .int .i64 (k : Int) ∧ av = .string acc ∧ k ≤ l.length ∧ acc.size ≤ 64 ∧ (altJ k acc (TL.onlys (l.drop k)) = res ∧ (k = 0 → acc = ⟨#[]⟩)) ∧ Blk wr w.heap.size 27 #[.int .i64 6, .int .u64 s0, .int .u64 s1, .int .u64 s2, .int .u64 s3, .slice A l.length c, .int .i64 num, .int .i64 mn, .int .i64 mx, .bool bare] ∧ Below W.heap.size W wr ∧ Tab wr) (fun _ kv _ => l.length - (intOf kv).toNat)
      case atStart => exact ⟨0, ⟨#[]⟩, rfl, rfl, Nat.zero_le _, by decide, ⟨by rw [List.drop_zero, ← HR.out]; exact (Hd.only_6 rfl _).symm, fun _ => rfl⟩, H0.out.1, Below.refl _ _, H0.out.2.2⟩
      case round =>
        obtain ⟨k, acc, rfl, rfl, hk, hacc, hinv, hbx, hbel, hTb⟩ := hrel
        have HH := hide (And.intro hbx (And.intro hbel hTb))
        have HV := hide hinv
        have hzb0 := hbx.lt
        clear hinv hTb
        by_cases hlt : k < l.length
        case neg =>
          have g1 : decide ((k : Int) < (l.length : Int)) = false := decide_eq_false (by omega)
          have hke : k = l.length := by omega
          subst hke
          have HE := hide (show res = some acc by rw [← HV.out.1, List.drop_eq_nil_of_le (Nat.le_refl _)]; cases hln : l.length with | zero => rw [HV.out.2 hln]; rfl | succ _ => rfl)
          clear hbx hbel
          go_wp2_with fail
          refine bodyPost_ret (v := .tuple #[.string acc, .bool true]) (by simp [results, Tryd.results45, go_sem]) rfl ?_
          exact ⟨by rw [HE.out]; rfl, H0.out.2.1.trans (HH.out.2.1.mono H0.out.2.1.size)⟩
        case pos =>
          have g1 : decide ((k : Int) < (l.length : Int)) = true := decide_eq_true (by omega)
          have hs := List.getElem?_eq_getElem hlt
          obtain ⟨b, ofs, B, c', rfl, hbk, hcs, hsub⟩ := TL.In.at_ (T.In_iff.1 HIN.out) hs
          have hmem := List.getElem_mem hlt
          have hdrop : l.drop k = l[k] :: l.drop (k + 1) := List.drop_eq_getElem_cons hlt
          have heq := HV.out.1
          have hs64 := HS.out l[k] hmem
          have HX := hide (fun (y : World) (hy : Tab y) (hi : T.In y (· < y.heap.size) (l[k]'hlt) B) => HIH.out (l[k]'hlt) hmem B c' y hy hi)
          rw [hdrop, TL.onlys] at heq
          generalize l[k] = s at *
          obtain ⟨n0, n1, n2, n3, n4, n5, n6, n7, n8, n9⟩ := (hcs.same (same_of_below hbel) hbk).node
          have HQ := hide heq
          have hsub2 := hsub.next hbel
          have hzb := Blk.new wr 27 zeroCells
          have hal := (Below.refl wr.heap.size wr).alloc (Nat.le_refl _) (.cells zeroCells 27)
          unfold zeroCells at hzb hal
          have c0 := hbx.cell
          clear hs hcs heq hdrop hmem hsub HV hbx hbel
          go_wp2_with (first | refine wpList_store_row rfl _ _ _ rfl wr.heap.size 0 _ _ _ rfl rfl hzb Tryd.sizeNode (by simp) (by simp [Value.oneCell']) ?_)
          intro w5 hrow2 hg9 hz9
          have hrow := hrow2.out
          rw [splice_full (by rfl)] at hrow
          have hbE : Below wr.heap.size wr w5 := below_grew hal hg9 (Nat.le_refl _) (fun q hq => by rw [← Option.some.inj hq]; exact Nat.le_refl _)
          have c5 := hrow.cell
          have HH5 := hide (And.intro (HH.out.1.next hbE) (And.intro (HH.out.2.1.trans (hbE.mono HH.out.2.1.size)) (HH.out.2.2.below hbE)))
          have HI5 := hide (hsub2.next hbE)
          clear hrow2 hrow hg9 hz9 hal hzb hbE c0 n0 n1 n2 n3 n4 n5 n6 n7 n8 n9 hsub2 HH
          go_wp2_with fail
          refine (HX.out w5 HH5.out.2.2 HI5.out).mono ?_
          rintro e w6 ⟨rfl, hb6⟩
          have HH6 := hide (And.intro (HH5.out.1.next hb6) (And.intro (HH5.out.2.1.trans (hb6.mono HH5.out.2.1.size)) (HH5.out.2.2.below hb6)))
          have c0 := HH6.out.1.cell
          clear hb6 HX HI5 HH5 c5
          unfold optV
          have HS6 := hide hs64
          clear hs64
          generalize s.only = so at *
          cases so with
          | none =>
            have HE := hide (show res = none by rw [← HQ.out]; exact altJ_none k acc _)
            go_wp2_with fail
            refine bodyPost_ret (v := .tuple #[.string ⟨#[]⟩, .bool false]) (by simp [results, Tryd.results45, go_sem]) rfl ?_
            exact ⟨by rw [HE.out]; rfl, H0.out.2.1.trans (HH6.out.2.1.mono H0.out.2.1.size)⟩
          | some x =>
            simp only [Option.getD_some, Option.isSome_some]
            have hx64 := HS6.out x rfl
            have hdx : decide (64 < (x.size : Int)) = false := decide_eq_false (by omega)
            by_cases hk0 : k = 0
            · have g0 : decide (0 < (k : Int)) = false := decide_eq_false (by omega)
              have HE := hide (show altJ (k + 1) x (TL.onlys (l.drop (k + 1))) = res by rw [← HQ.out, altJ_first hk0])
              have hkp : ¬ 0 < k := by omega
              clear hk0
              go_wp2_with fail
              go_roundw
              case rel => exact ⟨k + 1, x, by go_num, rfl, hlt, hx64, ⟨HE.out, fun h => absurd h (Nat.succ_ne_zero k)⟩, HH6.out.1, HH6.out.2.1, HH6.out.2.2⟩
              case measure => simp [intOf]; omega
            · have g0 : decide (0 < (k : Int)) = true := decide_eq_true (by omega)
              by_cases he : x = acc
              · have q1 : (x.toList == acc.toList) = true := by rw [toList_beq]; exact decide_eq_true he
                have q2 : (!(x.toList == acc.toList)) = false := by rw [q1]; rfl
                have hkp : 0 < k := by omega
                have HE := hide (show altJ (k + 1) x (TL.onlys (l.drop (k + 1))) = res by rw [← HQ.out, ← he, altJ_same hk0])
                clear hk0 he
                go_wp2_with fail
                go_roundw
                case rel => exact ⟨k + 1, x, by go_num, rfl, hlt, hx64, ⟨HE.out, fun h => absurd h (Nat.succ_ne_zero k)⟩, HH6.out.1, HH6.out.2.1, HH6.out.2.2⟩
                case measure => simp [intOf]; omega
              · have q1 : (x.toList == acc.toList) = false := by rw [toList_beq]; exact decide_eq_false he
                have q2 : (!(x.toList == acc.toList)) = true := by rw [q1]; rfl
                have hkp : 0 < k := by omega
                have HE := hide (show res = none by rw [← HQ.out, altJ_other hk0 he])
                clear hk0 he
                go_wp2_with fail
                refine bodyPost_ret (v := .tuple #[.string ⟨#[]⟩, .bool false]) (by simp [results, Tryd.results45, go_sem]) rfl ?_
                exact ⟨by rw [HE.out]; rfl, H0.out.2.1.trans (HH6.out.2.1.mono H0.out.2.1.size)⟩
    · subst hk
      obtain ⟨s, rfl⟩ : ∃ s, l = [s] := by
        cases l with
        | nil => simp at hl1
        | cons s r => cases r with
          | nil => exact ⟨s, rfl⟩
          | cons _ _ => simp at hl1
      have HR := hide (show res = s.only by rw [hres]; exact Hd.only_7 rfl _)
      obtain ⟨b, ofs, B, c', rfl, hbk, hcs, hsub⟩ := TL.In.at_ (i := 0) (T.In_iff.1 hin2) rfl
      have hn := hcs.node
      simp only [Nat.zero_mul, Nat.add_zero] at hn
      obtain ⟨n0, n1, n2, n3, n4, n5, n6, n7, n8, n9⟩ := hn
      have HX := hide (HIH.out s (by simp) B c' _ H0.out.2.2 hsub)
      clear hres hmin hin2 hsz hcs hsub HIH
      simp only [List.length_cons, List.length_nil, Nat.zero_add] at *
      go_enter Tryd.func45, Tryd.ntmps45
      go_wp2_with fail
      refine HX.out.mono ?_
      rintro e w1 ⟨rfl, hb1⟩
      have H1 := hide (H0.out.2.1.trans (hb1.mono H0.out.2.1.size))
      clear hb1 HX H0 c0 n0 n1 n2 n3 n4 n5 n6 n7 n8 n9
      unfold optV
      go_wp2_with fail
      refine bodyPost_ret (v := .tuple #[.string (s.only.getD ⟨#[]⟩), .bool s.only.isSome]) (by simp [results, Tryd.results45, go_sem]) rfl ?_
      exact ⟨by rw [HR.out]; rfl, H1.out⟩
    · subst hk
      obtain ⟨s, rfl⟩ : ∃ s, l = [s] := by
        cases l with
        | nil => simp at hl1
        | cons s r => cases r with
          | nil => exact ⟨s, rfl⟩
          | cons _ _ => simp at hl1
      have HR := hide (show res = if mx = 0 then some ⟨#[]⟩ else repO mn mx s.only by rw [hres]; exact Hd.only_8 rfl _)
      have hm := hmin rfl
      have HX := hide (repeated_of 8 s0 s1 s2 s3 num mn mx bare s A c (w.alloc (.cells #[.int .i64 8, .int .u64 s0, .int .u64 s1, .int .u64 s2, .int .u64 s3, .slice A [s].length c, .int .i64 num, .int .i64 mn, .int .i64 mx, .bool bare] 27)) ⟨hm.1, hm.2.1⟩ (hsz s (by simp)) (T.In_iff.1 hin2) (fun B c' y hy hi => HIH.out s (by simp) B c' y (H0.out.2.2.below hy) hi))
      clear hres hmin hin2 hsz HIH hm
      simp only [List.length_cons, List.length_nil, Nat.zero_add] at *
      go_enter Tryd.func45, Tryd.ntmps45
      go_wp2_with fail
      refine HX.out.mono ?_
      rintro e w1 ⟨rfl, hb1⟩
      have H1 := hide (H0.out.2.1.trans (hb1.mono H0.out.2.1.size))
      clear hb1 HX H0 c0
      rw [← HR.out]
      unfold optV
      go_wp2_with fail
      refine bodyPost_ret (v := .tuple #[.string (res.getD ⟨#[]⟩), .bool res.isSome]) (by simp [results, Tryd.results45, go_sem]) rfl ?_
      exact ⟨rfl, H1.out⟩
end Go.Proofs.YtbbhobojghmkpaaDoor
