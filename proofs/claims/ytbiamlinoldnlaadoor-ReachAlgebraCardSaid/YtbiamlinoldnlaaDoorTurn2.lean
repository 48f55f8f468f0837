/- turn.turn: the walk. (Printed by gen_turn2.py.) -/
import Derived.Test.YtbiamlinoldnlaaDoorTurn
set_option linter.unusedSimpArgs false
set_option linter.unusedVariables false
set_option linter.unnecessarySimpa false
namespace Go.Proofs.YtbiamlinoldnlaaDoor
open Go.RowKit

theorem Blk.set_ {w : World} {g : Nat} {t : TypeId} {cs : Array Value} (h : Blk w g t cs) (i : Nat) (u : Value) : Blk (w.setCell ⟨g, i, none⟩ u) g t (cs.setIfInBounds i u) := by
  unfold Blk at h ⊢
  simp [World.setCell, Array.getElem?_modify, h]

set_option maxRecDepth 100000 in
theorem reverse_none (A : Option Addr) (c : Nat) (w : World) : Calls Tryd.prog 96 #[.slice A 0 c] w fun e w' => e = .returned (.tuple #[]) ∧ w' = w := by
  go_enter Tryd.func96, Tryd.ntmps96
  go_wp2_with fail
  refine wp_loop_rounds 1 ?_
  rw [rounds_succ]
  go_wp2_with fail
  go_end0
  exact ⟨rfl, rfl⟩

/-- What holds at the head of a round: the first k trees of m are turned; pb is the node's own block. -/
structure TurnInv (bs0 : List Nat) (m : List T) (w wr : World) (pb g n k : Nat) (pcur cur : Array Value) (bs : List Nat) : Prop where
  row : Blk wr g 27 cur
  own : TL.Own wr ((m.take k).map T.turn ++ m.drop k) cur.toList bs
  nodup : bs.Nodup
  sub : ∀ b ∈ bs, b ∈ bs0
  node : Blk wr pb 27 pcur
  only : Only (fun b => b = pb ∨ b = g ∨ b ∈ bs0) w wr

theorem TurnInv.step {bs0 : List Nat} {m : List T} {w wr w1 : World} {pb g n k : Nat} {pcur cur cur1 : Array Value} {bs b1 b2 b3 b2' : List Nat} {s : T} {B : Option Addr} {c : Nat} (h : TurnInv bs0 m w wr pb g n k pcur cur bs) (hs : m[k]? = some s)
    (hgp : g ≠ pb) (hg0 : g ∉ bs0) (hp0 : pb ∉ bs0) (hlt : ∀ b ∈ bs0, b < wr.heap.size)
    (hb : bs = b1 ++ (b2 ++ b3)) (hre : ∀ (w' : World) (s' : T) (b2' : List Nat), Same (fun b => b ∈ b1 ∨ b ∈ b3) wr w' → T.Own w' s' B b2' → s'.subs.length = s.subs.length →
        TL.Own w' ((m.take k).map T.turn ++ s' :: m.drop (k + 1)) (splice cur.toList (k * 10) (s'.hd.cells (.slice B s.subs.length c))) (b1 ++ (b2' ++ b3)))
    (hon : Only (fun b => b = g ∨ b ∈ b2) wr w1) (hrow : Blk w1 g 27 cur1) (hcur : cur1.toList = splice cur.toList (k * 10) (s.turn.hd.cells (.slice B s.subs.length c)))
    (hsub : ∀ b ∈ b2', b ∈ b2) (hnd : b2'.Nodup) (hown : T.Own w1 s.turn B b2') : TurnInv bs0 m w w1 pb g n (k + 1) pcur cur1 (b1 ++ (b2' ++ b3)) := by
  subst hb
  have hk : k < m.length := (List.getElem?_eq_some_iff.1 hs).1
  have hnd0 := List.nodup_append.1 h.nodup
  have hnd1 := List.nodup_append.1 hnd0.2.1
  have S : Same (fun b => b ∈ b1 ∨ b ∈ b3) wr w1 := hon.same fun b hb => by
    have hb0 : b ∈ bs0 := h.sub b (by rcases hb with hb | hb <;> simp [hb])
    refine ⟨hlt b hb0, fun hx => ?_⟩
    rcases hx with rfl | hx
    · exact hg0 hb0
    · rcases hb with hb | hb
      · exact hnd0.2.2 b hb b (by simp [hx]) rfl
      · exact hnd1.2.2 b hx b hb rfl
  refine ⟨hrow, ?_, ?_, ?_, ?_, ?_⟩
  · rw [show (m.take (k + 1)).map T.turn ++ m.drop (k + 1) = (m.take k).map T.turn ++ s.turn :: m.drop (k + 1) from by rw [List.take_add_one, hs]; simp]
    rw [hcur]
    exact hre w1 s.turn b2' S hown (T.turn_subs_length s)
  · refine List.nodup_append.2 ⟨hnd0.1, List.nodup_append.2 ⟨hnd, hnd1.2.1, fun x hx y hy => hnd1.2.2 x (hsub x hx) y hy⟩, fun x hx y hy => hnd0.2.2 x hx y ?_⟩
    rcases List.mem_append.1 hy with hy | hy
    · simp [hsub y hy]
    · simp [hy]
  · intro b hb
    refine h.sub b ?_
    simp only [List.mem_append] at hb ⊢
    rcases hb with hb | hb | hb
    · exact .inl hb
    · exact .inr (.inl (hsub b hb))
    · exact .inr (.inr hb)
  · refine (hon.block pb h.node.lt fun hx => ?_).trans h.node
    rcases hx with hx | hx
    · exact hgp hx.symm
    · exact hp0 (h.sub pb (by simp [hx]))
  · exact h.only.then hon fun b _ hx => by
      rcases hx with hx | hx
      · exact .inr (.inl hx)
      · exact .inr (.inr (h.sub b (by simp [hx])))

/-- What turn leaves of a node at a place of block pb. -/
def TurnPost (t : T) (A : Option Addr) (c pb : Nat) (bs : List Nat) (pre rest : List Value) (w w' : World) : Prop :=
  Only (fun b => b = pb ∨ b ∈ bs) w w' ∧
      ∃ pcur' bs', Blk w' pb 27 pcur' ∧ pcur'.toList = pre ++ (t.turn.hd.cells (.slice A t.subs.length c) ++ rest) ∧ (∀ b ∈ bs', b ∈ bs) ∧ bs'.Nodup ∧ T.Own w' t.turn A bs'

set_option maxRecDepth 100000 in
set_option maxHeartbeats 4000000 in
theorem turn_any (M : Nat) : ∀ (t : T) (A : Option Addr) (c pb po : Nat) (bs : List Nat) (pcur : Array Value) (pre rest : List Value) (w : World), t.nodes ≤ M → M ≤ 1000000 → Blk w pb 27 pcur → Hid (pcur.toList = pre ++ (t.hd.cells (.slice A t.subs.length c) ++ rest)) →
    Hid (pre.length = po) → T.Own w t A bs → bs.Nodup → pb ∉ bs → (∀ b ∈ bs, b < w.heap.size) →
    Calls Tryd.prog 60 #[.pointer (some ⟨pb, po, none⟩)] w fun e w' => e = .returned (.tuple #[]) ∧ TurnPost t A c pb bs pre rest w w' := by
  induction M with
  | zero => intro t A c pb po bs pcur pre rest w h; have := t.nodes_pos; omega
  | succ M ih =>
    intro t A c pb po bs pcur pre rest w hM hM2 hp hpc hpo hown hnd hpb hlt0
    have hown' := T.Own_iff.1 hown
    obtain ⟨h, l⟩ := t
    obtain ⟨kind, s0, s1, s2, s3, num, mn, mx, bare⟩ := h
    have hlen := T.length_lt (T.mk ⟨kind, s0, s1, s2, s3, num, mn, mx, bare⟩ l)
    simp only [T.nodes] at hM
    simp only [T.nodes, T.hd, T.subs] at hlen hown' hpc
    have hfit : po + 10 ≤ pcur.size := by
      have h1 := congrArg List.length hpc.out
      have h2 := hpo.out
      simp [Hd.cells_length] at h1
      omega
    have hn := (show CellsAt w ⟨pb, po, none⟩ _ from (by
      have h1 := hp.cellsAt po
      rw [hpc.out, List.drop_left' hpo.out] at h1
      exact h1.left)).node
    simp only [] at hn
    obtain ⟨n0, n1, n2, n3, n4, n5, n6, n7, n8, n9⟩ := hn
    clear n1 n2 n3 n4 n6 n7 n8 n9
    have hfz := hp.frozen
    have hset : ∀ q : Int, (pcur.setIfInBounds po (.int .i64 q)).toList = pre ++ (Hd.cells ⟨q, s0, s1, s2, s3, num, mn, mx, bare⟩ (.slice A l.length c) ++ rest) := fun q => by
      rw [Array.toList_setIfInBounds, hpc.out, ← hpo.out]
      simp [Hd.cells]
    have HSET := hide hset
    clear hset
    have hpz := hp.lt
    rcases hown' with ⟨rfl, rfl⟩ | ⟨g, cur0, bs', rfl, rfl, hrow0, hrest0⟩
    · by_cases k3 : kind = 3
      · subst k3
        go_enter Tryd.func60, Tryd.ntmps60
        go_wp2_with fail
        refine wp_loop_rounds 1 ?_
        rw [rounds_succ]
        go_wp2_with fail
        go_end0
        exact ⟨rfl, (Only.refl _ _).setCell (.inl (.inl rfl)) _, _, [], hp.set_ _ _, HSET.out 4, by simp, by simp, .inl ⟨by simp [TL.turn], rfl⟩⟩
      by_cases k4 : kind = 4
      · subst k4
        go_enter Tryd.func60, Tryd.ntmps60
        go_wp2_with fail
        refine wp_loop_rounds 1 ?_
        rw [rounds_succ]
        go_wp2_with fail
        go_end0
        exact ⟨rfl, (Only.refl _ _).setCell (.inl (.inl rfl)) _, _, [], hp.set_ _ _, HSET.out 3, by simp, by simp, .inl ⟨by simp [TL.turn], rfl⟩⟩
      have e3 : (kind == 3) = false := by simp [k3]
      have e4 : (kind == 4) = false := by simp [k4]
      by_cases k5 : kind = 5
      · subst k5
        go_enter Tryd.func60, Tryd.ntmps60
        go_wp2_with fail
        refine (reverse_none A c _).mono ?_
        rintro e w1 ⟨rfl, rfl⟩
        go_wp2_with fail
        refine wp_loop_rounds 1 ?_
        rw [rounds_succ]
        go_wp2_with fail
        go_end0
        exact ⟨rfl, Only.refl _ _, _, [], hp, by simpa [Hd.turn, T.turn, T.hd, T.subs] using hpc.out, by simp, by simp, .inl ⟨by simp [TL.turn], rfl⟩⟩
      · have e5 : (kind == 5) = false := by simp [k5]
        go_enter Tryd.func60, Tryd.ntmps60
        go_wp2_with fail
        refine wp_loop_rounds 1 ?_
        rw [rounds_succ]
        go_wp2_with fail
        go_end0
        exact ⟨rfl, Only.refl _ _, _, [], hp, by simpa [Hd.turn, T.turn, T.hd, T.subs, k3, k4] using hpc.out, by simp, by simp, .inl ⟨by simp [TL.turn], rfl⟩⟩
    · have hg : g < w.heap.size := hrow0.lt
      have hg0 : g ∉ bs' := (List.nodup_cons.1 hnd).1
      have hnd' := (List.nodup_cons.1 hnd).2
      have hgp : g ≠ pb := fun e => hpb (by simp [e])
      have hp0 : pb ∉ bs' := fun e => hpb (by simp [e])
      have hlt1 : ∀ b ∈ bs', b < w.heap.size := fun b hb => hlt0 b (by simp [hb])
      by_cases k3 : kind = 3
      · subst k3
        go_enter Tryd.func60, Tryd.ntmps60
        go_wp2_with fail
        go_loopw [29] (fun kv wr => ∃ (k : Nat) (cur : Array Value) (bs : List Nat), kv = .int .i64 k ∧ k ≤ l.length ∧ TurnInv bs' l w wr pb g l.length k (pcur.setIfInBounds po (.int .i64 4)) cur bs) (fun kv _ => l.length - (intOf kv).toNat)
        case atStart => exact ⟨0, _, _, rfl, Nat.zero_le _, ⟨hrow0.far (p := ⟨pb, po, none⟩) hgp _, hrest0.same ((Same.refl _ _).set (p := ⟨pb, po, none⟩) (fun h => hp0 h) _), hnd', fun b hb => hb, hp.set_ _ _, (Only.refl _ _).setCell (.inl (.inl rfl)) _⟩⟩
        case round =>
          obtain ⟨k, cur, bs, rfl, hk, hinv⟩ := hrel
          have hml : (l).length = l.length := by first | rfl | simp
          have hnr := (show CellsAt wr ⟨pb, po, none⟩ (Hd.cells ⟨4, s0, s1, s2, s3, num, mn, mx, bare⟩ (.slice (some ⟨g, 0, none⟩) l.length c)) from (by
            have h1 := hinv.node.cellsAt po
            rw [HSET.out 4, List.drop_left' hpo.out] at h1
            exact h1.left)).node
          have c5 := hnr.2.2.2.2.2.1
          clear hnr
          by_cases hlt : k < l.length
          · have hs := List.getElem?_eq_getElem (show k < (l).length by omega)
            have hd : (l).drop k = (l)[k] :: (l).drop (k + 1) := List.drop_eq_getElem_cons (by omega)
            have hsn : (l)[k].nodes ≤ TL.nodes l := TL.nodes_mem (by have := List.getElem_mem (show k < (l).length by omega); first | exact this | simpa using this)
            generalize (l)[k] = s at *
            have hown1 := hinv.own
            rw [hd] at hown1
            obtain ⟨B, c2, b1, b2, b3, rest2, q1, q2, q3, q4⟩ := hown1.split
            have hpl : (((l).take k).map T.turn).length = k := by simp; omega
            rw [hpl] at q1 q4
            have hck : cur.toList = cur.toList.take (k * 10) ++ (s.hd.cells (.slice B s.subs.length c2) ++ rest2) := by rw [← q1, List.take_append_drop]
            have hcl : (cur.toList.take (k * 10)).length = k * 10 := by
              have := congrArg List.length q1
              simp [Hd.cells_length] at this
              simp
              omega
            have hb2 : ∀ b ∈ b2, b ∈ bs' := fun b hb => hinv.sub b (by rw [q2]; simp [hb])
            have hlt2 : ∀ b ∈ bs', b < wr.heap.size := fun b hb => Nat.lt_of_lt_of_le (hlt1 b hb) hinv.only.size
            have hnb : bs.Nodup := hinv.nodup
            rw [q2] at hnb
            have HH := hide (And.intro hs (And.intro q2 q4))
            have HC := hide hck
            have HL := hide hcl
            have hrw := hinv.row
            have HI := hide hinv
            clear hs hd q1 q2 q4 hck hcl hpl hown1 hinv
            go_wp2_with fail
            refine (ih s B c2 g (k * 10) b2 cur (cur.toList.take (k * 10)) rest2 wr (by omega) (by omega) hrw HC HL q3 (List.nodup_append.1 (List.nodup_append.1 hnb).2.1).1 (fun h => hg0 (hb2 g h)) (fun b hb => hlt2 b (hb2 b hb))).mono ?_
            rintro e w1 ⟨rfl, hon1, cur1, b2', r1, r2, r3, r4, r5⟩
            have hc1 : cur1.toList = splice cur.toList (k * 10) (s.turn.hd.cells (.slice B s.subs.length c2)) := by
              rw [r2, splice]
              congr 2
              rw [← List.drop_drop]
              conv => rhs; rw [HC.out]
              rw [List.drop_left' HL.out]
              exact (List.drop_left' (Hd.cells_length _ _)).symm
            have HN := hide (HI.out.step (n := l.length) HH.out.1 hgp hg0 hp0 hlt2 HH.out.2.1 HH.out.2.2 hon1 r1 hc1 r3 r4 r5)
            clear HI HH HC HL hc1 r1 r2 r3 r4 r5 hon1
            go_wp2_with fail
            go_roundw
            case rel => exact ⟨k + 1, _, _, by go_num, by omega, HN.out⟩
            case measure => simp [intOf]; omega
          · have hke : k = (l).length := by omega
            go_wp2_with fail
            go_end0
            have ho := hinv.own
            rw [hke, List.take_length, List.drop_length, List.append_nil] at ho
            refine ⟨rfl, hinv.only.mono fun b _ hx => by rcases hx with hx | hx | hx <;> simp [hx], _, g :: bs, hinv.node, by rw [HSET.out 4]; simp [T.turn, T.hd, T.subs, Hd.turn], ?_, ?_, ?_⟩
            · intro b hb
              rcases List.mem_cons.1 hb with rfl | hb
              · simp
              · simp [hinv.sub b hb]
            · exact List.nodup_cons.2 ⟨fun hb => hg0 (hinv.sub g hb), hinv.nodup⟩
            · exact .inr ⟨g, cur, bs, rfl, rfl, hinv.row, by simpa [T.turn, T.subs, TL.turn_eq] using ho⟩
      by_cases k4 : kind = 4
      · subst k4
        go_enter Tryd.func60, Tryd.ntmps60
        go_wp2_with fail
        go_loopw [29] (fun kv wr => ∃ (k : Nat) (cur : Array Value) (bs : List Nat), kv = .int .i64 k ∧ k ≤ l.length ∧ TurnInv bs' l w wr pb g l.length k (pcur.setIfInBounds po (.int .i64 3)) cur bs) (fun kv _ => l.length - (intOf kv).toNat)
        case atStart => exact ⟨0, _, _, rfl, Nat.zero_le _, ⟨hrow0.far (p := ⟨pb, po, none⟩) hgp _, hrest0.same ((Same.refl _ _).set (p := ⟨pb, po, none⟩) (fun h => hp0 h) _), hnd', fun b hb => hb, hp.set_ _ _, (Only.refl _ _).setCell (.inl (.inl rfl)) _⟩⟩
        case round =>
          obtain ⟨k, cur, bs, rfl, hk, hinv⟩ := hrel
          have hml : (l).length = l.length := by first | rfl | simp
          have hnr := (show CellsAt wr ⟨pb, po, none⟩ (Hd.cells ⟨3, s0, s1, s2, s3, num, mn, mx, bare⟩ (.slice (some ⟨g, 0, none⟩) l.length c)) from (by
            have h1 := hinv.node.cellsAt po
            rw [HSET.out 3, List.drop_left' hpo.out] at h1
            exact h1.left)).node
          have c5 := hnr.2.2.2.2.2.1
          clear hnr
          by_cases hlt : k < l.length
          · have hs := List.getElem?_eq_getElem (show k < (l).length by omega)
            have hd : (l).drop k = (l)[k] :: (l).drop (k + 1) := List.drop_eq_getElem_cons (by omega)
            have hsn : (l)[k].nodes ≤ TL.nodes l := TL.nodes_mem (by have := List.getElem_mem (show k < (l).length by omega); first | exact this | simpa using this)
            generalize (l)[k] = s at *
            have hown1 := hinv.own
            rw [hd] at hown1
            obtain ⟨B, c2, b1, b2, b3, rest2, q1, q2, q3, q4⟩ := hown1.split
            have hpl : (((l).take k).map T.turn).length = k := by simp; omega
            rw [hpl] at q1 q4
            have hck : cur.toList = cur.toList.take (k * 10) ++ (s.hd.cells (.slice B s.subs.length c2) ++ rest2) := by rw [← q1, List.take_append_drop]
            have hcl : (cur.toList.take (k * 10)).length = k * 10 := by
              have := congrArg List.length q1
              simp [Hd.cells_length] at this
              simp
              omega
            have hb2 : ∀ b ∈ b2, b ∈ bs' := fun b hb => hinv.sub b (by rw [q2]; simp [hb])
            have hlt2 : ∀ b ∈ bs', b < wr.heap.size := fun b hb => Nat.lt_of_lt_of_le (hlt1 b hb) hinv.only.size
            have hnb : bs.Nodup := hinv.nodup
            rw [q2] at hnb
            have HH := hide (And.intro hs (And.intro q2 q4))
            have HC := hide hck
            have HL := hide hcl
            have hrw := hinv.row
            have HI := hide hinv
            clear hs hd q1 q2 q4 hck hcl hpl hown1 hinv
            go_wp2_with fail
            refine (ih s B c2 g (k * 10) b2 cur (cur.toList.take (k * 10)) rest2 wr (by omega) (by omega) hrw HC HL q3 (List.nodup_append.1 (List.nodup_append.1 hnb).2.1).1 (fun h => hg0 (hb2 g h)) (fun b hb => hlt2 b (hb2 b hb))).mono ?_
            rintro e w1 ⟨rfl, hon1, cur1, b2', r1, r2, r3, r4, r5⟩
            have hc1 : cur1.toList = splice cur.toList (k * 10) (s.turn.hd.cells (.slice B s.subs.length c2)) := by
              rw [r2, splice]
              congr 2
              rw [← List.drop_drop]
              conv => rhs; rw [HC.out]
              rw [List.drop_left' HL.out]
              exact (List.drop_left' (Hd.cells_length _ _)).symm
            have HN := hide (HI.out.step (n := l.length) HH.out.1 hgp hg0 hp0 hlt2 HH.out.2.1 HH.out.2.2 hon1 r1 hc1 r3 r4 r5)
            clear HI HH HC HL hc1 r1 r2 r3 r4 r5 hon1
            go_wp2_with fail
            go_roundw
            case rel => exact ⟨k + 1, _, _, by go_num, by omega, HN.out⟩
            case measure => simp [intOf]; omega
          · have hke : k = (l).length := by omega
            go_wp2_with fail
            go_end0
            have ho := hinv.own
            rw [hke, List.take_length, List.drop_length, List.append_nil] at ho
            refine ⟨rfl, hinv.only.mono fun b _ hx => by rcases hx with hx | hx | hx <;> simp [hx], _, g :: bs, hinv.node, by rw [HSET.out 3]; simp [T.turn, T.hd, T.subs, Hd.turn], ?_, ?_, ?_⟩
            · intro b hb
              rcases List.mem_cons.1 hb with rfl | hb
              · simp
              · simp [hinv.sub b hb]
            · exact List.nodup_cons.2 ⟨fun hb => hg0 (hinv.sub g hb), hinv.nodup⟩
            · exact .inr ⟨g, cur, bs, rfl, rfl, hinv.row, by simpa [T.turn, T.subs, TL.turn_eq] using ho⟩
      have e3 : (kind == 3) = false := by simp [k3]
      have e4 : (kind == 4) = false := by simp [k4]
      by_cases k5 : kind = 5
      · subst k5
        obtain ⟨X, tail, x1, x2, x3, x4, x5⟩ := hrest0.rev
        go_enter Tryd.func60, Tryd.ntmps60
        go_wp2_with fail
        rw [← x3]
        refine (reverse_any X x1 x2 tail g c cur0 w (by omega) hrow0 x4).mono ?_
        rintro e w1 ⟨rfl, hon0, cur1, y1, y2⟩
        rw [x3]
        obtain ⟨bs2, z1, z2, z3⟩ := x5 w1 tail (hon0.same fun b hb => ⟨hlt1 b hb, fun h => hg0 (h ▸ hb)⟩)
        rw [← y2] at z3
        have hp1 : Blk w1 pb 27 pcur := (hon0.block pb hpz (fun h => hgp h.symm)).trans hp
        have hcell5 : w1.cell? ⟨pb, po + 5, none⟩ = some (.slice (some ⟨g, 0, none⟩) l.length c) := by rw [hp1.cell, ← hp.cell]; exact n5
        clear x1 x2 x3 x4 x5 y2
        have HX := hide (And.intro z1 (And.intro z2 z3))
        clear z1 z2 z3
        go_wp2_with fail
        go_loopw [29] (fun kv wr => ∃ (k : Nat) (cur : Array Value) (bs : List Nat), kv = .int .i64 k ∧ k ≤ l.length ∧ TurnInv bs' l.reverse w wr pb g l.length k pcur cur bs) (fun kv _ => l.length - (intOf kv).toNat)
        case atStart => exact ⟨0, _, _, rfl, Nat.zero_le _, ⟨y1, by simpa using HX.out.2.2, HX.out.2.1 hnd', fun b hb => (HX.out.1 b).1 hb, hp1, hon0.mono fun b _ hx => .inr (.inl hx)⟩⟩
        case round =>
          obtain ⟨k, cur, bs, rfl, hk, hinv⟩ := hrel
          have hml : (l.reverse).length = l.length := by first | rfl | simp
          have hnr := (show CellsAt wr ⟨pb, po, none⟩ (Hd.cells ⟨5, s0, s1, s2, s3, num, mn, mx, bare⟩ (.slice (some ⟨g, 0, none⟩) l.length c)) from (by
            have h1 := hinv.node.cellsAt po
            rw [hpc.out, List.drop_left' hpo.out] at h1
            exact h1.left)).node
          have c5 := hnr.2.2.2.2.2.1
          clear hnr
          by_cases hlt : k < l.length
          · have hs := List.getElem?_eq_getElem (show k < (l.reverse).length by omega)
            have hd : (l.reverse).drop k = (l.reverse)[k] :: (l.reverse).drop (k + 1) := List.drop_eq_getElem_cons (by omega)
            have hsn : (l.reverse)[k].nodes ≤ TL.nodes l := TL.nodes_mem (by have := List.getElem_mem (show k < (l.reverse).length by omega); first | exact this | simpa using this)
            generalize (l.reverse)[k] = s at *
            have hown1 := hinv.own
            rw [hd] at hown1
            obtain ⟨B, c2, b1, b2, b3, rest2, q1, q2, q3, q4⟩ := hown1.split
            have hpl : (((l.reverse).take k).map T.turn).length = k := by simp; omega
            rw [hpl] at q1 q4
            have hck : cur.toList = cur.toList.take (k * 10) ++ (s.hd.cells (.slice B s.subs.length c2) ++ rest2) := by rw [← q1, List.take_append_drop]
            have hcl : (cur.toList.take (k * 10)).length = k * 10 := by
              have := congrArg List.length q1
              simp [Hd.cells_length] at this
              simp
              omega
            have hb2 : ∀ b ∈ b2, b ∈ bs' := fun b hb => hinv.sub b (by rw [q2]; simp [hb])
            have hlt2 : ∀ b ∈ bs', b < wr.heap.size := fun b hb => Nat.lt_of_lt_of_le (hlt1 b hb) hinv.only.size
            have hnb : bs.Nodup := hinv.nodup
            rw [q2] at hnb
            have HH := hide (And.intro hs (And.intro q2 q4))
            have HC := hide hck
            have HL := hide hcl
            have hrw := hinv.row
            have HI := hide hinv
            clear hs hd q1 q2 q4 hck hcl hpl hown1 hinv
            go_wp2_with fail
            refine (ih s B c2 g (k * 10) b2 cur (cur.toList.take (k * 10)) rest2 wr (by omega) (by omega) hrw HC HL q3 (List.nodup_append.1 (List.nodup_append.1 hnb).2.1).1 (fun h => hg0 (hb2 g h)) (fun b hb => hlt2 b (hb2 b hb))).mono ?_
            rintro e w1 ⟨rfl, hon1, cur1, b2', r1, r2, r3, r4, r5⟩
            have hc1 : cur1.toList = splice cur.toList (k * 10) (s.turn.hd.cells (.slice B s.subs.length c2)) := by
              rw [r2, splice]
              congr 2
              rw [← List.drop_drop]
              conv => rhs; rw [HC.out]
              rw [List.drop_left' HL.out]
              exact (List.drop_left' (Hd.cells_length _ _)).symm
            have HN := hide (HI.out.step (n := l.length) HH.out.1 hgp hg0 hp0 hlt2 HH.out.2.1 HH.out.2.2 hon1 r1 hc1 r3 r4 r5)
            clear HI HH HC HL hc1 r1 r2 r3 r4 r5 hon1
            go_wp2_with fail
            go_roundw
            case rel => exact ⟨k + 1, _, _, by go_num, by omega, HN.out⟩
            case measure => simp [intOf]; omega
          · have hke : k = (l.reverse).length := by omega
            go_wp2_with fail
            go_end0
            have ho := hinv.own
            rw [hke, List.take_length, List.drop_length, List.append_nil] at ho
            refine ⟨rfl, hinv.only.mono fun b _ hx => by rcases hx with hx | hx | hx <;> simp [hx], _, g :: bs, hinv.node, by rw [hpc.out]; simp [T.turn, T.hd, T.subs, Hd.turn], ?_, ?_, ?_⟩
            · intro b hb
              rcases List.mem_cons.1 hb with rfl | hb
              · simp
              · simp [hinv.sub b hb]
            · exact List.nodup_cons.2 ⟨fun hb => hg0 (hinv.sub g hb), hinv.nodup⟩
            · exact .inr ⟨g, cur, bs, rfl, rfl, hinv.row, by simpa [T.turn, T.subs, TL.turn_eq] using ho⟩
      · have e5 : (kind == 5) = false := by simp [k5]
        go_enter Tryd.func60, Tryd.ntmps60
        go_wp2_with fail
        go_loopw [29] (fun kv wr => ∃ (k : Nat) (cur : Array Value) (bs : List Nat), kv = .int .i64 k ∧ k ≤ l.length ∧ TurnInv bs' l w wr pb g l.length k pcur cur bs) (fun kv _ => l.length - (intOf kv).toNat)
        case atStart => exact ⟨0, _, _, rfl, Nat.zero_le _, ⟨hrow0, hrest0, hnd', fun b hb => hb, hp, Only.refl _ _⟩⟩
        case round =>
          obtain ⟨k, cur, bs, rfl, hk, hinv⟩ := hrel
          have hml : (l).length = l.length := by first | rfl | simp
          have hnr := (show CellsAt wr ⟨pb, po, none⟩ (Hd.cells ⟨kind, s0, s1, s2, s3, num, mn, mx, bare⟩ (.slice (some ⟨g, 0, none⟩) l.length c)) from (by
            have h1 := hinv.node.cellsAt po
            rw [hpc.out, List.drop_left' hpo.out] at h1
            exact h1.left)).node
          have c5 := hnr.2.2.2.2.2.1
          clear hnr
          by_cases hlt : k < l.length
          · have hs := List.getElem?_eq_getElem (show k < (l).length by omega)
            have hd : (l).drop k = (l)[k] :: (l).drop (k + 1) := List.drop_eq_getElem_cons (by omega)
            have hsn : (l)[k].nodes ≤ TL.nodes l := TL.nodes_mem (by have := List.getElem_mem (show k < (l).length by omega); first | exact this | simpa using this)
            generalize (l)[k] = s at *
            have hown1 := hinv.own
            rw [hd] at hown1
            obtain ⟨B, c2, b1, b2, b3, rest2, q1, q2, q3, q4⟩ := hown1.split
            have hpl : (((l).take k).map T.turn).length = k := by simp; omega
            rw [hpl] at q1 q4
            have hck : cur.toList = cur.toList.take (k * 10) ++ (s.hd.cells (.slice B s.subs.length c2) ++ rest2) := by rw [← q1, List.take_append_drop]
            have hcl : (cur.toList.take (k * 10)).length = k * 10 := by
              have := congrArg List.length q1
              simp [Hd.cells_length] at this
              simp
              omega
            have hb2 : ∀ b ∈ b2, b ∈ bs' := fun b hb => hinv.sub b (by rw [q2]; simp [hb])
            have hlt2 : ∀ b ∈ bs', b < wr.heap.size := fun b hb => Nat.lt_of_lt_of_le (hlt1 b hb) hinv.only.size
            have hnb : bs.Nodup := hinv.nodup
            rw [q2] at hnb
            have HH := hide (And.intro hs (And.intro q2 q4))
            have HC := hide hck
            have HL := hide hcl
            have hrw := hinv.row
            have HI := hide hinv
            clear hs hd q1 q2 q4 hck hcl hpl hown1 hinv
            go_wp2_with fail
            refine (ih s B c2 g (k * 10) b2 cur (cur.toList.take (k * 10)) rest2 wr (by omega) (by omega) hrw HC HL q3 (List.nodup_append.1 (List.nodup_append.1 hnb).2.1).1 (fun h => hg0 (hb2 g h)) (fun b hb => hlt2 b (hb2 b hb))).mono ?_
            rintro e w1 ⟨rfl, hon1, cur1, b2', r1, r2, r3, r4, r5⟩
            have hc1 : cur1.toList = splice cur.toList (k * 10) (s.turn.hd.cells (.slice B s.subs.length c2)) := by
              rw [r2, splice]
              congr 2
              rw [← List.drop_drop]
              conv => rhs; rw [HC.out]
              rw [List.drop_left' HL.out]
              exact (List.drop_left' (Hd.cells_length _ _)).symm
            have HN := hide (HI.out.step (n := l.length) HH.out.1 hgp hg0 hp0 hlt2 HH.out.2.1 HH.out.2.2 hon1 r1 hc1 r3 r4 r5)
            clear HI HH HC HL hc1 r1 r2 r3 r4 r5 hon1
            go_wp2_with fail
            go_roundw
            case rel => exact ⟨k + 1, _, _, by go_num, by omega, HN.out⟩
            case measure => simp [intOf]; omega
          · have hke : k = (l).length := by omega
            go_wp2_with fail
            go_end0
            have ho := hinv.own
            rw [hke, List.take_length, List.drop_length, List.append_nil] at ho
            refine ⟨rfl, hinv.only.mono fun b _ hx => by rcases hx with hx | hx | hx <;> simp [hx], _, g :: bs, hinv.node, by rw [hpc.out]; simp [T.turn, T.hd, T.subs, Hd.turn, k3, k4, k5], ?_, ?_, ?_⟩
            · intro b hb
              rcases List.mem_cons.1 hb with rfl | hb
              · simp
              · simp [hinv.sub b hb]
            · exact List.nodup_cons.2 ⟨fun hb => hg0 (hinv.sub g hb), hinv.nodup⟩
            · exact .inr ⟨g, cur, bs, rfl, rfl, hinv.row, by simpa [T.turn, T.subs, TL.turn_eq, k3, k4, k5] using ho⟩
end Go.Proofs.YtbiamlinoldnlaaDoor
