/- trawllaw17.open, trawllaw17.led: to which positions edges lead over a byte. -/
import Derived.Test.YthkddbfgihgfaaaDoorGluWalk
import Derived.Test.YthkddbfgihgfaaaDoorSceneNew
set_option linter.unusedSimpArgs false
set_option linter.unusedVariables false
namespace Go.Proofs.YthkddbfgihgfaaaDoor
open Go.RowKit

theorem open17_any {x : Sc} {sb sm : Nat} (v i : Nat) (hv : v < 16) (hi : i ≤ x.len) (w : World) (hsc : Scn w sb sm x) :
    Calls Tryd.prog 21 #[.int .i64 v, .pointer (some ⟨sb, 0, none⟩), .int .i64 i] w fun e w' => e = .returned (.bool (v.testBit (x.mark i))) ∧ Below w.heap.size w w' := by
  have hm := hsc.small i
  have HM := hide (marks_in hsc i hi)
  clear hsc
  generalize x.mark i = m at *
  have h64 : m < 64 := by omega
  have hk : (bits .and .i64 ((v : Int) / 2 ^ m) 1 == 1) = v.testBit m := way_bit ⟨v, hv⟩ ⟨m, hm⟩
  rw [← hk]
  clear hk
  go_enter Tryd.func21, Tryd.ntmps21
  go_wp2_with fail
  refine HM.out.mono ?_
  rintro e w1 ⟨rfl, rfl⟩
  go_wp2_with fail
  go_ret
  exact ⟨rfl, Below.refl _ _⟩

/-- Behind k of the edges. -/
structure LedR (p : Po) (m b n g : Nat) (F : Nat → Bool) (l : List Ed) (gp : Nat) (cs : Array Value) (y : World) (k : Nat) (wr : World) : Prop where
  row : BoRow wr g n (fun q => F q || leads p m b (l.take k) q)
  box : Blk wr gp 36 cs
  same : Same (fun h => h < y.heap.size ∧ h ≠ g) y wr
  size : y.heap.size ≤ wr.heap.size
  os : Below g y wr

theorem LedR.next {p : Po} {m b n g gp k : Nat} {F : Nat → Bool} {l : List Ed} {cs : Array Value} {y wr w' : World} (h : LedR p m b n g F l gp cs y k wr) (hg : g < y.heap.size) (hb : Below wr.heap.size wr w') : LedR p m b n g F l gp cs y k w' :=
  ⟨h.row.next hb, h.box.nxt hb, h.same.trans ((same_of_below hb).mono fun q hq => Nat.lt_of_lt_of_le hq.1 h.size), Nat.le_trans h.size hb.size, h.os.trans (hb.mono (Nat.le_trans (Nat.le_of_lt hg) h.size))⟩

set_option maxRecDepth 100000 in
set_option maxHeartbeats 2000000 in
theorem led17law_any (p : Po) (pa : PoA) (x : Sc) (sb sm i g n B0 : Nat) (l : List Ed) (A : Option Addr) (c : Nat) (F : Nat → Bool) (y : World) (hwf : p.wf) (hn : n = p.sets.length) (hok : EdOk n l) (hi : i < x.len) (hll : l.length ≤ 9223372036854775807) (hnl : n ≤ 9223372036854775807)
    (hin : PoIn (· < B0) y p pa) (hsc : Scn y sb sm x) (hsb : sb < B0) (hsm : sm < B0) (hB : B0 ≤ g) (hed : EdIn (· < B0) y l A) (hrow : BoRow y g n F) :
    Calls Tryd.prog 22 #[.agg (p.cells pa).toArray, .pointer (some ⟨sb, 0, none⟩), .int .i64 i, .slice A l.length c, .slice (some ⟨g, 0, none⟩) n n] y fun e y' =>
      e = .returned (.tuple #[]) ∧ BoRow y' g n (fun q => F q || leads p (x.mark i) (byteB x i) l q) ∧ Same (fun h => h < y.heap.size ∧ h ≠ g) y y' ∧ Below g y y' := by
  have hgl := hrow.lt
  have hbx := Blk.new y 36 (p.cells pa).toArray
  have hal := (Below.refl y.heap.size y).alloc (Nat.le_refl _) (.cells (p.cells pa).toArray 36)
  have H0 := hide (LedR.mk (p := p) (m := x.mark i) (b := byteB x i) (F := F) (l := l) (k := 0) ((hrow.next hal).congr (fun q _ => by simp [leads])) hbx ((same_of_below hal).mono fun h hh => hh.1) hal.size (hal.mono (by omega)))
  have HBy := hide (fun w h => byte_in (w := w) (b := sb) (m := sm) (x := x) h i hi)
  have HOp := hide (fun v w hv h => open17_any (x := x) (sb := sb) (sm := sm) v i hv (Nat.le_of_lt hi) w h)
  have HI := hide (And.intro hin (And.intro hsc (And.intro hed hok)))
  have hb256 : byteB x i < 256 := by unfold byteB; exact (x.text.data.toList.getD i 0).toNat_lt
  have HSc := hide (fun (w : World) (hs : Same (fun h => h < y.heap.size ∧ h ≠ g) y w) => hsc.same hs ⟨hsc.box.lt, by omega⟩ ⟨hsc.row.lt, by omega⟩)
  have HNN := hide hn
  have HWF := hide hwf
  clear hin hsc hed hok hrow hbx hal hn hwf
  simp only [Po.cells] at H0 ⊢
  unfold byteB at *
  generalize hbb : (x.text.data.toList.getD i 0).toNat = bb at *
  clear hbb
  go_enter Tryd.func22, Tryd.ntmps22
  go_wp2_with fail
  generalize (y.alloc (.cells #[.slice pa.s p.sets.length pa.cs, .int .i64 p.null, .slice pa.f p.first.length pa.cf, .slice pa.l p.last.length pa.cl, .slice pa.w p.follow.length pa.cw] 36)) = Y at *
  refine (HBy.out _ (HSc.out _ H0.out.same)).mono ?_
  rintro e w1 ⟨rfl, rfl⟩
  have hll' := hll
  go_wp2_with fail
  go_loopw [22] (fun kv wr => ∃ k : Nat, kv = .int .i64 k ∧ k ≤ l.length ∧ LedR p (x.mark i) bb n g F l y.heap.size #[.slice pa.s p.sets.length pa.cs, .int .i64 p.null, .slice pa.f p.first.length pa.cf, .slice pa.l p.last.length pa.cl, .slice pa.w p.follow.length pa.cw] y k wr) (fun kv _ => l.length - (intOf kv).toNat)
  case atStart => exact ⟨0, rfl, by omega, H0.out⟩
  case round =>
    clear H0
    obtain ⟨k, rfl, hk, hL⟩ := hrel
    have HL := hide hL
    clear hL
    by_cases hlt : k < l.length
    · have g1 : decide ((k : Int) < (l.length : Int)) = true := decide_eq_true (by omega)
      have hs := List.getElem?_eq_getElem hlt
      have htk : l.take (k + 1) = l.take k ++ [l[k]] := by rw [List.take_add_one, hs]; rfl
      generalize l[k] = ed at *
      obtain ⟨e1, e2⟩ := ed
      obtain ⟨he0, hen, hv1, hv2, _⟩ := EdOk.at_ HI.out.2.2.2 hs
      simp only at he0 hen hv1 hv2
      obtain ⟨q, rfl⟩ : ∃ q : Nat, e1 = q := ⟨e1.toNat, by omega⟩
      obtain ⟨v, rfl⟩ : ∃ v : Nat, e2 = v := ⟨e2.toNat, by omega⟩
      have hqn : q < n := by omega
      have hv16 : v < 16 := by omega
      have hqs : q < p.sets.length := by have := HNN.out; omega
      have hss := List.getElem?_eq_getElem hqs
      have hsw := HWF.out.sets _ (List.getElem_mem hqs)
      have hsh : setHas p q bb = Hd.has ⟨0, (p.sets[q]).1, (p.sets[q]).2.1, (p.sets[q]).2.2.1, (p.sets[q]).2.2.2, 0, 0, 0, false⟩ bb := by unfold setHas; rw [hss]
      generalize p.sets[q] = se at *
      obtain ⟨s0, s1, s2, s3⟩ := se
      simp only at hsh
      obtain ⟨be, oe, rfl, hbe, ce1, ce2⟩ := HI.out.2.2.1.cell hs
      obtain ⟨bs, os, hes, hbs, z0, z1, z2, z3⟩ := HI.out.1.sets.cell hss
      have hbeK : be < y.heap.size ∧ be ≠ g := ⟨by omega, by omega⟩
      have hbsK : bs < y.heap.size ∧ bs ≠ g := ⟨by omega, by omega⟩
      have ce1' := (HL.out.same.cell (a := ⟨be, oe + k * 2, none⟩) hbeK).trans ce1
      have ce2' := (HL.out.same.cell (a := ⟨be, oe + k * 2 + 1, none⟩) hbeK).trans ce2
      simp only at ce1' ce2' z0 z1 z2 z3
      have HZ := hide (And.intro z0 (And.intro z1 (And.intro z2 z3)))
      have HS := hide (And.intro hs (And.intro htk (And.intro hsh (And.intro hss hsw))))
      have HES := hide hes
      clear ce1 ce2 hs htk hsh hss hsw z0 z1 z2 z3 hes
      have hz := hide (Blk.new wr 58 #[.int .i64 0, .int .i64 0])
      go_wp2_with (refine wpList_store_row rfl _ _ _ rfl wr.heap.size 0 _ _ _ rfl rfl hz.out Tryd.sizeEdge (by simp) (by simp [Value.oneCell']) ?_)
      intro w2 hrow2 hg2 hz2
      have hrow := hrow2.out
      rw [splice_full (by rfl)] at hrow
      have hb : Below wr.heap.size wr w2 := below_grew ((Below.refl wr.heap.size wr).alloc (Nat.le_refl _) _) hg2 (Nat.le_refl _) (fun g hg => by injection hg with hg; omega)
      have H2 := hide (And.intro (HL.out.next hgl hb) hrow)
      have hgw : g < wr.heap.size := Nat.lt_of_lt_of_le hgl HL.out.size
      clear hrow hrow2 hg2 hz2 hb hz ce1' ce2' HL
      generalize wr.heap.size = ge at *
      have ce := H2.out.2.cell
      go_wp2_with fail
      refine (HOp.out v w2 hv16 (HSc.out w2 H2.out.1.same)).mono ?_
      rintro e w3 ⟨rfl, hb3⟩
      have H3 := hide (And.intro (H2.out.1.next hgl hb3) (H2.out.2.nxt hb3))
      clear hb3 H2 ce
      generalize hopn : v.testBit (x.mark i) = opn at *
      have HO2 := hide hopn
      clear hopn
      have hlead : ∀ (z : Nat) (t : Bool), setHas p q bb = t → leads p (x.mark i) bb (l.take (k + 1)) z = (leads p (x.mark i) bb (l.take k) z || (decide (z = q) && (opn && t))) := fun z t ht => by
        rw [HS.out.2.1, leads_snoc]
        congr 1
        simp only [Int.toNat_natCast, HO2.out]
        by_cases e : z = q
        · subst e
          simp [ht]
        · have e' : ((q : Int) == (z : Int)) = false := by simp; omega
          simp [e, e']
      have HLd := hide hlead
      clear hlead
      cases opn with
      | false =>
        go_wp2_with fail
        go_roundw
        case rel =>
          refine ⟨k + 1, by go_num, hlt, ⟨H3.out.1.row.congr fun z _ => ?_, H3.out.1.box, H3.out.1.same, H3.out.1.size, H3.out.1.os⟩⟩
          rw [HLd.out z _ rfl]
          simp
        case measure => simp [intOf]; omega
      | true =>
        have cp := H3.out.1.box.cell
        rw [HES.out] at cp
        have ce := H3.out.2.cell
        have y0 := (H3.out.1.same.cell (a := ⟨bs, os + q * 4, none⟩) hbsK).trans HZ.out.1
        have y1 := (H3.out.1.same.cell (a := ⟨bs, os + q * 4 + 1, none⟩) hbsK).trans HZ.out.2.1
        have y2 := (H3.out.1.same.cell (a := ⟨bs, os + q * 4 + 2, none⟩) hbsK).trans HZ.out.2.2.1
        have y3 := (H3.out.1.same.cell (a := ⟨bs, os + q * 4 + 3, none⟩) hbsK).trans HZ.out.2.2.2
        go_wp2_with fail
        refine (has_any s0 s1 s2 s3 bb hb256 w3 HS.out.2.2.2.2.1 HS.out.2.2.2.2.2.1 HS.out.2.2.2.2.2.2.1 HS.out.2.2.2.2.2.2.2).mono ?_
        rintro e w4 ⟨rfl, hb4⟩
        have H4 := hide (And.intro (H3.out.1.next hgl hb4) (H3.out.2.nxt hb4))
        rw [← HS.out.2.2.1]
        clear hb4 H3 cp ce y0 y1 y2 y3
        generalize hhas : setHas p q bb = has at *
        have HHs := hide hhas
        clear hhas
        cases has with
        | false =>
          go_wp2_with fail
          go_roundw
          case rel =>
            refine ⟨k + 1, by go_num, hlt, ⟨H4.out.1.row.congr fun z _ => ?_, H4.out.1.box, H4.out.1.same, H4.out.1.size, H4.out.1.os⟩⟩
            rw [HLd.out z _ rfl]
            simp
          case measure => simp [intOf]; omega
        | true =>
          have ce := H4.out.2.cell
          have cr := H4.out.1.row.cell q hqn
          have fr := H4.out.1.row.frozen q
          go_wp2_with fail
          go_roundw
          case rel =>
            refine ⟨k + 1, by go_num, hlt, ⟨(H4.out.1.row.set q true hqn).congr fun z _ => ?_, H4.out.1.box.far (by show y.heap.size ≠ g; omega) _, H4.out.1.same.set (fun h => h.2 rfl) _, by simp; exact H4.out.1.size, H4.out.1.os.setCell (Nat.le_refl _) _⟩⟩
            rw [HLd.out z _ rfl]
            by_cases e : z = q
            · simp [e]
            · simp [e]
          case measure => simp [intOf]; omega
    · have g1 : decide ((k : Int) < (l.length : Int)) = false := decide_eq_false (by omega)
      obtain rfl : k = l.length := by omega
      go_wp2_with fail
      go_end0
      have h1 := HL.out.row
      rw [List.take_length] at h1
      exact ⟨rfl, h1, HL.out.same, HL.out.os⟩
end Go.Proofs.YthkddbfgihgfaaaDoor
