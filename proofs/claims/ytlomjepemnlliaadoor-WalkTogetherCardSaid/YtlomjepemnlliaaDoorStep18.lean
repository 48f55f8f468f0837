/- walk's step: over a byte. (Printed by gen_step18.py.) -/
import Derived.Test.YtlomjepemnlliaaDoorLead
import Derived.Test.YtlomjepemnlliaaDoorScene
set_option linter.unusedSimpArgs false
set_option linter.unusedVariables false
namespace Go.Proofs.YtlomjepemnlliaaDoor
open Go.RowKit

/-- The front behind a byte: to which positions the edges of the front lead (and, at a start, those of first). -/
def stepB (p : Po) (m b : Nat) (starts : Bool) (F : Nat → Bool) (q : Nat) : Bool := (starts && leads p m b p.first q) || (List.range p.sets.length).any fun k => F k && leads p m b (p.follow.getD k []) q

/-- A walker in memory: its box, its front, its marks; what it reads. -/
structure WkAt (p : Po) (pa : PoA) (x : Sc) (sb sm n g gi B0 : Nat) (L : List Nat) (fv : Value) (y : World) : Prop where
  po : PoIn (· < B0) y p pa
  sc : Scn y sb sm x
  ksb : sb < B0
  ksm : sm < B0
  kg : B0 ≤ g
  ki : B0 ≤ gi
  row : BoRow y gi n (fun _ => false)
  nodup : L.Nodup
  lt : ∀ q ∈ L, q < n
  box : Blk y g 89 #[.slice pa.s p.sets.length pa.cs, .int .i64 p.null, .slice pa.f p.first.length pa.cf, .slice pa.l p.last.length pa.cl, .slice pa.w p.follow.length pa.cw, .pointer (some ⟨sb, 0, none⟩), fv, .slice (some ⟨gi, 0, none⟩) n n]
  own : OwnInts B0 y fv (L.map fun q : Nat => (q : Int))
  ne : ∀ h, fv.ownBlock = some h → h ≠ gi

/-- The list of positions under way: P tells which are on it. -/
structure Mid (P : Nat → Prop) (n gi bn bN B0 : Nat) (y y' : World) (N : List Nat) : Prop where
  next : NextIs y' bn bN N
  row : BoRow y' gi n (fun q => decide (q ∈ N))
  nodup : N.Nodup
  lt : ∀ q ∈ N, q < n
  mem : ∀ q, q ∈ N ↔ P q
  below : Below B0 y y'
  same : Same (Keep gi bn bN) y y'

theorem OwnInts.low {b1 b2 : Nat} {w : World} {v : Value} {l : List Int} (h : OwnInts b1 w v l) (hb : b2 ≤ b1) : OwnInts b2 w v l := by
  refine ⟨h.1, ?_⟩
  rcases h.2 with h | ⟨g, cap, cur, e, hg, r⟩
  · exact .inl h
  · exact .inr ⟨g, cap, cur, e, Nat.le_trans hb hg, r⟩

set_option maxRecDepth 100000 in
set_option maxHeartbeats 4000000 in
theorem step18_any (p : Po) (pa : PoA) (x : Sc) (sb sm n g gi B0 : Nat) (L : List Nat) (fv : Value) (y : World) (i : Nat) (starts : Bool) (hi : i < x.len) (hn : p.sets.length = n) (hn6 : n < 1000000) (hwf : p.wf) (hok : p.Ok) (hW : WkAt p pa x sb sm n g gi B0 L fv y) (hB0 : B0 ≤ y.heap.size) (F : Nat → Bool) (hF : ∀ q, q ∈ L ↔ F q = true) :
    Calls Tryd.prog 47 #[.pointer (some ⟨g, 0, none⟩), .int .i64 i, .bool starts] y fun e y' => e = .returned (.tuple #[]) ∧ ∃ L' fv', WkAt p pa x sb sm n g gi B0 L' fv' y' ∧ (∀ q, q ∈ L' ↔ stepB p (x.mark i) (x.text.data.toList.getD i 0).toNat starts F q = true) ∧ Below B0 y y' ∧ (∀ h, fv'.ownBlock = some h → y.heap.size ≤ h) ∧ Same (fun b => b < y.heap.size ∧ b ≠ g ∧ b ≠ gi) y y' := by
  have hmf : ∀ (fn : Fn) (first cap : Array Value) (w : World), (Instr.makeFunc fn first cap).run Tryd.prog w = .ok (.func fn first cap) w := fun _ _ _ _ => rfl
  have hbox := hW.box
  have hfr := hW.own
  have hfne := hW.ne
  have hm4 : x.mark i < 4 := hW.sc.small i
  have hb256 : (x.text.data.toList.getD i 0).toNat < 256 := UInt8.toNat_lt _
  have hfit := hW.sc.fits
  have HM := hide (fun (o : Obj) => marks_in (hW.sc.below ((Below.refl _ _).alloc (Nat.le_refl _) o)) i (by omega))
  have HB := hide (fun (z : World) (hz : Below y.heap.size y z) => byte_in (hW.sc.below hz) i hi)
  have cg := fun (z : World) (hz : Below y.heap.size y z) => (hbox.nxt hz).cell
  have HW := hide (And.intro hW (And.intro hbox (And.intro hfr hfne)))
  have hgl := hbox.lt
  have hil := hW.row.lt
  have HOK := hide (And.intro hwf (And.intro hok hF))
  have hgi : g ≠ gi := fun e => hW.row.ne hbox (by decide) e.symm
  have hfn : p.follow.length = n := hok.len.trans hn
  have c0 := (hbox.alloc (.cells #[.pointer (some ⟨g, 0, none⟩)] 82)).cell
  have c1 := fun (o : Obj) => ((hbox.alloc (.cells #[.pointer (some ⟨g, 0, none⟩)] 82)).alloc o).cell
  have hkg0 := hW.kg
  have hki0 := hW.ki
  generalize hbt : (x.text.data.toList.getD i 0).toNat = bt at *
  generalize hmk : x.mark i = mk at *
  have HFN := hide (And.intro hfn hn)
  clear hW hbox hfr hfne hwf hok hF hbt hmk hfn hn
  go_enter Tryd.func47, Tryd.ntmps47
  go_wp2_with fail
  refine (HM.out _).mono ?_
  rintro e w1 ⟨rfl, rfl⟩
  go_wp2_with fail
  refine (HB.out _ (((Below.refl _ _).alloc (Nat.le_refl _) _).alloc (by simp) _)).mono ?_
  rintro e w1 ⟨rfl, rfl⟩
  clear c0 c1 cg HM HB
  go_upto_region 5 with fail
  have hbw := (((Blk.new y 82 #[.pointer (some ⟨g, 0, none⟩)]).alloc (.cells #[.int .i64 (mk : Int)] 3)).alloc (.cells #[.int .u8 (bt : Int)] 5)).alloc (.cells #[.slice none 0 0] 35)
  have hbm := ((Blk.new (y.alloc (.cells #[.pointer (some ⟨g, 0, none⟩)] 82)) 3 #[.int .i64 (mk : Int)]).alloc (.cells #[.int .u8 (bt : Int)] 5)).alloc (.cells #[.slice none 0 0] 35)
  have hbb := (Blk.new ((y.alloc (.cells #[.pointer (some ⟨g, 0, none⟩)] 82)).alloc (.cells #[.int .i64 (mk : Int)] 3)) 5 #[.int .u8 (bt : Int)]).alloc (.cells #[.slice none 0 0] 35)
  have hbn := Blk.new (((y.alloc (.cells #[.pointer (some ⟨g, 0, none⟩)] 82)).alloc (.cells #[.int .i64 (mk : Int)] 3)).alloc (.cells #[.int .u8 (bt : Int)] 5)) 35 #[.slice none 0 0]
  have hbel := ((((Below.refl y.heap.size y).alloc (Nat.le_refl _) (.cells #[.pointer (some ⟨g, 0, none⟩)] 82)).alloc (by simp) (.cells #[.int .i64 (mk : Int)] 3)).alloc (by simp; omega) (.cells #[.int .u8 (bt : Int)] 5)).alloc (by simp; omega) (.cells #[.slice none 0 0] 35)
  have hsz : y.heap.size + 4 ≤ ((((y.alloc (.cells #[.pointer (some ⟨g, 0, none⟩)] 82)).alloc (.cells #[.int .i64 (mk : Int)] 3)).alloc (.cells #[.int .u8 (bt : Int)] 5)).alloc (.cells #[.slice none 0 0] 35)).heap.size := by simp
  simp only [World.size_alloc] at hbm hbb hbn
  generalize ((((y.alloc (.cells #[.pointer (some ⟨g, 0, none⟩)] 82)).alloc (.cells #[.int .i64 (mk : Int)] 3)).alloc (.cells #[.int .u8 (bt : Int)] 5)).alloc (.cells #[.slice none 0 0] 35)) = Y at *
  have hkeep : ∀ b, b < B0 → Keep gi (y.heap.size + 1 + 1 + 1) (y.heap.size + 4) b := fun b hb => ⟨by omega, by omega, by omega⟩
  have henv : LeadEnv (Keep gi (y.heap.size + 1 + 1 + 1) (y.heap.size + 4)) p pa mk bt n g gi y.heap.size (y.heap.size + 1) (y.heap.size + 1 + 1) fv (.pointer (some ⟨sb, 0, none⟩)) Y :=
    ⟨⟨by omega, by omega, by omega⟩, ⟨by omega, by omega, by omega⟩, ⟨by omega, by omega, by omega⟩, ⟨by omega, hgi, by omega⟩, hbw, hbm, hbb, HW.out.2.1.nxt hbel, (HW.out.1.po.sets.same (same_of_below (hbel.mono hB0)) (fun b hb => hb)).same (Same.refl _ _) hkeep⟩
  have hedge : ∀ (r : List Ed) (A : Option Addr), EdIn (· < B0) y r A → ∀ wx, Same (Keep gi (y.heap.size + 1 + 1 + 1) (y.heap.size + 4)) Y wx → EdIn (Keep gi (y.heap.size + 1 + 1 + 1) (y.heap.size + 4)) wx r A := fun r A h wx hs => ((h.same (same_of_below (hbel.mono hB0)) hkeep).same hs (fun b hb => hb))
  have HL := hide (fun (r : List Ed) (A : Option Addr) (c : Nat) (N : List Nat) (wx : World) (h1 : EdOk n r) (h2 : r.length ≤ 9223372036854775807) (h3 : EdIn (· < B0) y r A) (h4 : Same (Keep gi (y.heap.size + 1 + 1 + 1) (y.heap.size + 4)) Y wx) (h5 : Below B0 Y wx) (h6 : NextIs wx (y.heap.size + 1 + 1 + 1) (y.heap.size + 4) N) (h7 : BoRow wx gi n (fun q => decide (q ∈ N))) (h8 : N.Nodup) (h9 : ∀ q ∈ N, q < n) =>
    lead_any p pa mk bt n g gi y.heap.size (y.heap.size + 1) (y.heap.size + 1 + 1) (y.heap.size + 1 + 1 + 1) (y.heap.size + 4) B0 fv (.pointer (some ⟨sb, 0, none⟩)) hm4 hb256 HFN.out.2 hn6 HOK.out.1.sets r A c N wx h1 h2 (hedge r A h3 wx h4) (henv.same h4) h6 h7 h8 h9 hki0 (by omega) (by omega) (by omega) (by omega) (by have := h5.size; omega))
  have HN0 := hide (Mid.mk (P := fun q => False) (n := n) (gi := gi) (bn := y.heap.size + 1 + 1 + 1) (bN := y.heap.size + 4) (B0 := B0) (y := Y) (y' := Y) (N := []) ⟨_, hbn, OwnInts.nil _ _⟩ ((HW.out.1.row.next hbel).congr fun i _ => by simp) List.nodup_nil (by simp) (by simp) (Below.refl _ _) (Same.refl _ _))
  have HY := hide (And.intro hbel (And.intro henv (And.intro hkeep hsz)))
  clear hbw hbm hbb hbn hbel hsz hkeep henv hedge
  go_upto_if 31 with fail
  go_cut [] (fun wx => ∃ N, Mid (fun q => starts = true ∧ leads p mk bt p.first q = true) n gi (y.heap.size + 1 + 1 + 1) (y.heap.size + 4) B0 Y wx N)
  case first =>
    cases starts with
    | false =>
      go_wp2_with fail
      go_meet
      case rel => exact ⟨[], HN0.out.next, HN0.out.row, HN0.out.nodup, HN0.out.lt, fun q => by simp, HN0.out.below, HN0.out.same⟩
    | true =>
      have cw := HY.out.2.1.cw.cell
      have cg := HY.out.2.1.cg.cell
      go_wp2_with fail
      refine (HL.out p.first pa.f pa.cf [] _ (by rw [← HFN.out.2]; exact HOK.out.2.1.first) HOK.out.1.nf HW.out.1.po.first (Same.refl _ _) (Below.refl _ _) HN0.out.next HN0.out.row HN0.out.nodup HN0.out.lt).mono ?_
      rintro e w3 ⟨rfl, N, hled⟩
      have HD := hide hled
      clear hled cw cg
      go_wp2_with fail
      go_meet
      case rel => exact ⟨N, HD.out.next, HD.out.row, HD.out.nodup, HD.out.lt, fun q => by rw [HD.out.mem q]; simp, HD.out.below, HD.out.same⟩
  case rest =>
  obtain ⟨N0, hmid⟩ := hcut
  have henv := HY.out.2.1.same hmid.same
  have cw := henv.cw.cell
  have cg := henv.cg.cell
  obtain ⟨LA, Lc, hfv, hll, hform⟩ := HW.out.2.2.1.form
  clear hform
  rw [List.length_map] at hfv hll
  have hfo : ∀ (wx : World), Same (Keep gi (y.heap.size + 1 + 1 + 1) (y.heap.size + 4)) Y wx → OwnInts B0 wx (.slice LA L.length Lc) (L.map fun q : Nat => (q : Int)) := fun wx hs => by
    rw [← hfv]
    refine (HW.out.2.2.1.below HY.out.1 (Nat.le_refl _)).same hs fun h hh => ⟨?_, HW.out.2.2.2 h hh, ?_⟩
    · have := (World.ownsRow.lt HW.out.2.2.1 h hh).2; omega
    · have := (World.ownsRow.lt HW.out.2.2.1 h hh).2; omega
  have HFO := hide hfo
  rw [hfv] at cg
  have HMD := hide hmid
  clear hmid henv hfo HN0
  go_wp2_with fail
  clear cw cg
  go_loopw [44] (fun kv wr => ∃ (k : Nat) (N : List Nat), kv = .int .i64 k ∧ k ≤ L.length ∧ Mid (fun q => (starts = true ∧ leads p mk bt p.first q = true) ∨ ∃ z ∈ L.take k, leads p mk bt (p.follow.getD z []) q = true) n gi (y.heap.size + 1 + 1 + 1) (y.heap.size + 4) B0 Y wr N) (fun kv _ => L.length - (intOf kv).toNat)
  case atStart => exact ⟨0, N0, rfl, by omega, HMD.out.next, HMD.out.row, HMD.out.nodup, HMD.out.lt, fun q => by rw [HMD.out.mem q]; simp, HMD.out.below, HMD.out.same⟩
  case round =>
    clear HMD
    obtain ⟨k, N, rfl, hk, hmid⟩ := hrel
    have HMD := hide hmid
    clear hmid
    by_cases hlt : k < L.length
    case neg =>
      have g1 : decide ((k : Int) < (L.length : Int)) = false := decide_eq_false (by omega)
      have htake : L.take k = L := List.take_of_length_le (by omega)
      have hmem : ∀ q, q ∈ N ↔ stepB p mk bt starts F q = true := fun q => by
        rw [HMD.out.mem q, htake]
        unfold stepB
        rw [Bool.or_eq_true, Bool.and_eq_true, List.any_eq_true]
        constructor
        · rintro (h | ⟨z, hz, h⟩)
          · exact .inl h
          · exact .inr ⟨z, List.mem_range.2 (by have := HW.out.1.lt z hz; have := HFN.out.2; omega), by rw [(HOK.out.2.2 z).1 hz, h]; rfl⟩
        · rintro (h | ⟨z, _, h⟩)
          · exact .inl h
          · rw [Bool.and_eq_true] at h
            exact .inr ⟨z, (HOK.out.2.2 z).2 h.1, h.2⟩
      have HME := hide hmem
      clear htake hmem
      obtain ⟨nv, hbn, hon⟩ := HMD.out.next
      obtain ⟨NA, Nc, rfl, hnl, _⟩ := hon.form
      have cn := hbn.cell
      rw [List.length_map] at cn hnl
      rw [List.length_map] at hbn hon
      have HNX := hide (And.intro hbn hon)
      clear hbn hon
      go_wp2_with fail
      clear cn
      rename World => W1
      go_loopw [61] (fun jv wx => ∃ j : Nat, jv = .int .i64 j ∧ j ≤ N.length ∧ BoRow wx gi n (fun q => decide (q ∈ N.drop j)) ∧ Same (fun b => b ≠ gi ∧ b < W1.heap.size) W1 wx ∧ Below B0 W1 wx) (fun jv _ => N.length - (intOf jv).toNat)
      case atStart => exact ⟨0, rfl, by omega, HMD.out.row.congr fun i _ => by simp, Same.refl _ _, Below.refl _ _⟩
      case round =>
        obtain ⟨j, rfl, hj, hrow, hsx, hbx⟩ := hrel
        have hS1 : Same (Keep gi (y.heap.size + 1 + 1 + 1) (y.heap.size + 4)) Y wr := HMD.out.same.trans (hsx.mono fun b hb => ⟨hb.2.1, by have := hb.1; have := HMD.out.below.size; have := HY.out.2.2.2; omega⟩)
        have henv := HY.out.2.1.same hS1
        have hbnx := HNX.out.1.same hsx ⟨by omega, by have := HMD.out.below.size; have := HY.out.2.2.2; omega⟩
        have hfz := hrow.frozen
        have cw := henv.cw.cell
        have cg := henv.cg.cell
        by_cases hjl : j < N.length
        case neg =>
          have g2 : decide ((j : Int) < (N.length : Int)) = false := decide_eq_false (by omega)
          have cn := hbnx.cell
          have cgf := henv.cg.frozen
          have hon := HNX.out.2.same hsx (fun h hh => ⟨by have := (World.ownsRow.lt HNX.out.2 h hh).1; omega, (World.ownsRow.lt HNX.out.2 h hh).2⟩)
          have hgl2 : g < y.heap.size + 4 := by omega
          obtain rfl : j = N.length := by omega
          have hb0 : Below B0 y wr := ((HY.out.1.mono hB0).trans HMD.out.below).trans hbx
          have HF := hide (And.intro henv.cg (And.intro hon (And.intro hrow (And.intro hb0 (show Same (fun b => b < y.heap.size ∧ b ≠ g ∧ b ≠ gi) y wr from ((same_of_below HY.out.1).mono fun b hb => hb.1).trans (hS1.mono fun b hb => ⟨by omega, hb.2.2, by omega⟩))))))
          clear henv hon hrow hb0 hbnx hsx hbx hS1 hfz
          go_wp2_with fail
          go_end0
          have hb := HF.out.2.2.2.1.setCell (p := ⟨g, 6, none⟩) (by simpa using hkg0) (.slice NA N.length Nc)
          refine ⟨rfl, N, _, ⟨HW.out.1.po.same (same_of_below hb) (fun b h => h), HW.out.1.sc.same (same_of_below hb) HW.out.1.ksb HW.out.1.ksm, HW.out.1.ksb, HW.out.1.ksm, hkg0, hki0, (HF.out.2.2.1.far (fun e => hgi e.symm) _).congr fun i hi => by simp, HMD.out.nodup, HMD.out.lt, heap_setCell_same wr g 6 _ _ _ HF.out.1, ?_, fun h hh => ?_⟩, HME.out, hb, fun h hh => ?_, HF.out.2.2.2.2.set (fun h => h.2.1 rfl) _⟩
          · refine (HF.out.2.1.low (by omega)).same (ok := fun b => b ≠ g) ((Same.refl _ _).set (fun h => h rfl) _) fun h hh => ?_
            have := (World.ownsRow.lt HF.out.2.1 h hh).1
            omega
          · have := (World.ownsRow.lt HF.out.2.1 h hh).1
            omega
          · have := (World.ownsRow.lt HF.out.2.1 h hh).1
            omega
        have g2 : decide ((j : Int) < (N.length : Int)) = true := decide_eq_true (by omega)
        have hz := List.getElem?_eq_getElem hjl
        have hdr : N.drop j = N[j] :: N.drop (j + 1) := List.drop_eq_getElem_cons hjl
        have hqn := HMD.out.lt _ (List.getElem_mem hjl)
        have hnd := HMD.out.nodup
        have hon := HNX.out.2.same (ok := fun b => b ≠ gi ∧ b < W1.heap.size) hsx (fun h hh => ⟨by have := (World.ownsRow.lt HNX.out.2 h hh).1; omega, (World.ownsRow.lt HNX.out.2 h hh).2⟩)
        generalize N[j] = q at *
        obtain ⟨A2, c2, e2, h9, hcl⟩ := hon.form
        injection e2 with e2 e3 e4
        subst e2
        clear h9 e3 e4
        obtain ⟨gl, eL, _, _, cl⟩ := hcl j (q : Int) (by rw [List.getElem?_map, hz]; rfl)
        subst eL
        have cr := hrow.cell q hqn
        have hnq : q ∉ N.drop (j + 1) := fun h => by
          have h1 := hnd.sublist (List.drop_sublist j N)
          rw [hdr, List.nodup_cons] at h1
          exact h1.1 h
        have HT := hide (And.intro hrow (And.intro hsx (And.intro hbx (And.intro hdr hnq))))
        clear hrow hsx hbx hdr hnq hcl hz hnd henv hbnx hS1 hon
        go_wp2_with fail
        go_roundw
        case rel =>
          refine ⟨j + 1, by go_num, hjl, (HT.out.1.set q false hqn).congr fun i hi => ?_, HT.out.2.1.set (fun h => h.1 rfl) _, HT.out.2.2.1.setCell hki0 _⟩
          rw [HT.out.2.2.2.1]
          by_cases h : i = q
          · subst h
            simp [HT.out.2.2.2.2]
          · simp [h]
        case measure => simp [intOf]; omega
    have g1 : decide ((k : Int) < (L.length : Int)) = true := decide_eq_true (by omega)
    have hz := List.getElem?_eq_getElem hlt
    have htk : L.take (k + 1) = L.take k ++ [L[k]] := by rw [List.take_add_one, hz]; rfl
    have hzn := HW.out.1.lt _ (List.getElem_mem hlt)
    generalize L[k] = z at *
    have hr := List.getElem?_eq_getElem (show z < p.follow.length by rw [HFN.out.1]; exact hzn)
    have hgd : p.follow.getD z [] = p.follow[z]'(by rw [HFN.out.1]; exact hzn) := by rw [List.getD_eq_getElem?_getD, hr]; rfl
    have hmr := List.getElem_mem (l := p.follow) (n := z) (by rw [HFN.out.1]; exact hzn)
    generalize p.follow[z]'(by rw [HFN.out.1]; exact hzn) = r at *
    obtain ⟨bf, of, Br, cr, ef, hbf, cf, hri⟩ := HW.out.1.po.follow.cell hr
    have henv := HY.out.2.1.same HMD.out.same
    have cw := henv.cw.cell
    have cg := henv.cg.cell
    rw [ef, hfv] at cg
    have cfx : wr.cell? ⟨bf, of + z, none⟩ = some (.slice Br r.length cr) := by
      rw [HMD.out.same.cell (a := ⟨bf, of + z, none⟩) (HY.out.2.2.1 bf hbf), (same_of_below (HY.out.1.mono hB0)).cell (a := ⟨bf, of + z, none⟩) hbf]
      exact cf
    obtain ⟨A2, c2, e2, h9, hcl⟩ := (HFO.out wr HMD.out.same).form
    injection e2 with e2 e3 e4
    subst e2
    clear h9 e3 e4
    obtain ⟨gl, eL, _, _, cl⟩ := hcl k (z : Int) (by rw [List.getElem?_map, hz]; rfl)
    subst eL
    have hzl : z < p.follow.length := by rw [HFN.out.1]; exact hzn
    have HR := hide (And.intro htk (And.intro hgd (And.intro hri (And.intro (HOK.out.2.1.follow z r hr) (HOK.out.1.follow r hmr).1))))
    clear htk hgd hri hr hmr hcl hz henv cf
    go_wp2_with fail
    refine (HL.out r Br cr N _ (by rw [← HFN.out.2]; exact HR.out.2.2.2.1) HR.out.2.2.2.2 HR.out.2.2.1 HMD.out.same HMD.out.below HMD.out.next HMD.out.row HMD.out.nodup HMD.out.lt).mono ?_
    rintro e w3 ⟨rfl, N', hled⟩
    have HD := hide hled
    clear hled cw cg cfx cl
    go_wp2_with fail
    go_roundw
    case rel =>
      refine ⟨k + 1, N', by go_num, hlt, HD.out.next, HD.out.row, HD.out.nodup, HD.out.lt, fun q => ?_, HMD.out.below.trans HD.out.below, HMD.out.same.trans HD.out.same⟩
      rw [HD.out.mem q, HMD.out.mem q, HR.out.1]
      constructor
      · rintro ((h | ⟨z2, hz2, h⟩) | h)
        · exact .inl h
        · exact .inr ⟨z2, List.mem_append.2 (.inl hz2), h⟩
        · exact .inr ⟨z, List.mem_append.2 (.inr (by simp)), by rw [HR.out.2.1]; exact h⟩
      · rintro (h | ⟨z2, hz2, h⟩)
        · exact .inl (.inl h)
        · rcases List.mem_append.1 hz2 with h3 | h3
          · exact .inl (.inr ⟨z2, h3, h⟩)
          · obtain rfl : z2 = z := by simpa using h3
            rw [HR.out.2.1] at h
            exact .inr h
    case measure => simp [intOf]; omega
end Go.Proofs.YtlomjepemnlliaaDoor
