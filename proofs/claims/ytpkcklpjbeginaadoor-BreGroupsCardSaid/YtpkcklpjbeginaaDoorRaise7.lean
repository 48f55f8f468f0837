/- trawllaw07.raise: all the groups' numbers of a tree one more. (Made out of chapter 6's text.) -/
import Derived.Test.YtpkcklpjbeginaaDoorRaise6
set_option linter.unusedSimpArgs false
set_option linter.unusedVariables false
namespace Go.Proofs.YtpkcklpjbeginaaDoor
open Go.RowKit

set_option maxRecDepth 100000 in
set_option maxHeartbeats 4000000 in
theorem raise7_any (N : Nat) : ∀ (t : T) (A : Option Addr) (c : Nat) (bs : List Nat) (w : World) (gb kk : Nat) (cur : Array Value) (pre post : List Value), t.nodes ≤ N → N ≤ 1000000 → T.Own w t A bs → bs.Nodup → (∀ b ∈ bs, b < w.heap.size) → gb ∉ bs →
    Blk w gb 28 cur → cur.toList = pre ++ (t.hd.cells (.slice A t.subs.length c) ++ post) → pre.length = kk →
    Calls Tryd.prog 9 #[.pointer (some ⟨gb, kk, none⟩)] w fun e w' => e = .returned (.tuple #[]) ∧ ∃ cur', Blk w' gb 28 cur' ∧ cur'.toList = pre ++ ((t.raise 1).hd.cells (.slice A t.subs.length c) ++ post) ∧ T.Own w' (t.raise 1) A bs ∧ Only (fun b => b = gb ∨ b ∈ bs) w w' := by
  induction N with
  | zero => intro t A c bs w gb kk cur pre post h; have := t.nodes_pos; omega
  | succ N ih =>
    intro t A c bs w gb kk cur pre post hN hM hown hnd hlt0 hgbs hblk hcur hpre
    have hown' := T.Own_iff.1 hown
    have hhd := T.raise_hd 1 t
    obtain ⟨h', hh'⟩ : ∃ h', h' = (t.raise 1).hd := ⟨_, rfl⟩
    rw [← hh'] at hhd ⊢
    clear hh'
    obtain ⟨h, l⟩ := t
    obtain ⟨kind, s0, s1, s2, s3, num, mn, mx, bare⟩ := h
    have hlen := T.length_lt (T.mk ⟨kind, s0, s1, s2, s3, num, mn, mx, bare⟩ l)
    simp only [T.nodes] at hN
    simp only [T.nodes, T.hd, T.subs] at hlen hown' hcur hhd ⊢
    have hc0 : cur.toList.drop kk = (Hd.cells ⟨kind, s0, s1, s2, s3, num, mn, mx, bare⟩ (.slice A l.length c)) ++ post := by rw [hcur, ← hpre, List.drop_left]
    have n0 := (hc0 ▸ hblk.cellsAt kk).left.node
    have f0 := hblk.frozen
    have HW := hide (And.intro hblk hcur)
    have HPre := hide hpre
    have HH := hide hhd
    clear hblk hcur hc0 hpre hhd hown
    by_cases hk7 : kind = 7
    · skip
      subst hk7
      have HH2 := hide (HH.out.trans (if_pos rfl))
      clear HH
      go_enter Tryd.func9, Tryd.ntmps9
      go_upto_region 2 with fail
      have hb1 := HW.out.1.set_ (kk + 6) (.int .i64 (wrap64 (num + 1)))
      have hcl : (cur.setIfInBounds (kk + 6) (.int .i64 (wrap64 (num + 1)))).toList = pre ++ (Hd.cells ⟨7, s0, s1, s2, s3, wrap64 (num + 1), mn, mx, bare⟩ (.slice A l.length c) ++ post) := by
        rw [Array.toList_setIfInBounds, HW.out.2, set_mid HPre.out (by rw [Hd.cells_length]; omega)]
        rfl
      have ho1 : Only (fun b => b = gb) w (w.setCell ⟨gb, kk + 6, none⟩ (.int .i64 (wrap64 (num + 1)))) := (Only.refl (fun b => b = gb) w).setCell (p := ⟨gb, kk + 6, none⟩) (.inl rfl) _
      generalize (cur.setIfInBounds (kk + 6) (.int .i64 (wrap64 (num + 1)))) = cur1 at *
      generalize (w.setCell ⟨gb, kk + 6, none⟩ (.int .i64 (wrap64 (num + 1)))) = W1 at *
      have HB1 := hide (And.intro hb1 ho1)
      have HC2 := hide (show cur1.toList = pre ++ (h'.cells (.slice A l.length c) ++ post) from by rw [HH2.out, IntWalk.i64_left]; exact hcl)
      have HC1 := hide (show cur1.toList.drop kk = Hd.cells ⟨7, s0, s1, s2, s3, wrap64 (num + 1), mn, mx, bare⟩ (.slice A l.length c) ++ post from by rw [hcl, ← HPre.out, List.drop_left])
      clear hcl hb1 ho1 n0 f0 HH2
      have n0 := (HC1.out ▸ HB1.out.1.cellsAt kk).left.node
      rcases hown' with ⟨rfl, rfl⟩ | ⟨g, cur0, bs', rfl, rfl, hrow0, hrest0⟩
      · go_wp2_with fail
        refine wp_loop_rounds 1 ?_
        rw [rounds_succ]
        go_wp2_with fail
        go_end0
        refine ⟨rfl, cur1, HB1.out.1, HC2.out, T.Own_iff.2 (.inl ⟨by rw [T.raise_subs]; rfl, rfl⟩), HB1.out.2.mono fun b _ hb => .inl hb⟩
      · have hng : g ∉ bs' := (List.nodup_cons.1 hnd).1
        have hnd' := (List.nodup_cons.1 hnd).2
        have hgg : gb ≠ g := fun e => hgbs (by simp [e])
        have H1 := hide (And.intro HB1.out.1 (And.intro (show Blk W1 g 28 cur0 from (HB1.out.2.block g hrow0.lt (fun e => hgg e.symm)).trans hrow0) (And.intro (show TL.Own W1 l cur0.toList bs' from hrest0.same (HB1.out.2.same fun b hb => ⟨hlt0 b (by simp [hb]), fun e => hgbs (by rw [← e]; simp [hb])⟩)) (show Only (fun b => b = gb ∨ b = g ∨ b ∈ bs') w W1 from HB1.out.2.mono fun b _ hb => .inl hb))))
        clear hrow0 hrest0 HB1
        go_wp2_with fail
        clear n0
        go_loopw [20] (fun kv wr => ∃ (k : Nat) (cur : Array Value), kv = .int .i64 k ∧ k ≤ l.length ∧ Blk wr g 28 cur ∧ TL.Own wr (TL.raise 1 (l.take k) ++ l.drop k) cur.toList bs' ∧ Only (fun b => b = gb ∨ b = g ∨ b ∈ bs') w wr ∧ Blk wr gb 28 cur1)
          (fun kv _ => l.length - (intOf kv).toNat)
        case atStart => exact ⟨0, cur0, rfl, Nat.zero_le _, H1.out.2.1, by simpa [TL.raise] using H1.out.2.2.1, H1.out.2.2.2, H1.out.1⟩
        case round =>
          obtain ⟨k, cur, rfl, hk, hrow, hrest, honly, hgb⟩ := hrel
          have HR := hide (And.intro hrow (And.intro honly hgb))
          have n1 := (HC1.out ▸ hgb.cellsAt kk).left.node
          by_cases hlt : k < l.length
          · have g1 : decide ((k : Int) < (l.length : Int)) = true := decide_eq_true (by omega)
            have hd : l.drop k = l[k] :: l.drop (k + 1) := List.drop_eq_getElem_cons hlt
            have htk : TL.raise 1 (l.take (k + 1)) = TL.raise 1 (l.take k) ++ [l[k].raise 1] := by rw [List.take_succ_eq_append_getElem hlt, TL.raise_snoc]
            have hsn := TL.nodes_mem (List.getElem_mem hlt)
            generalize l[k] = s at *
            rw [hd] at hrest
            obtain ⟨xs1, B, c', b1, rest, hx, hx1, hsub, hnd1, hs1, hput⟩ := TL.Own.split6 hrest hnd'
            have hx1' : xs1.length = k * 10 := by rw [hx1, TL.raise_length, List.length_take, Nat.min_eq_left (by omega)]
            have HP := hide hput
            have HT := hide htk
            have hb1lt : ∀ b ∈ b1, b < wr.heap.size := fun b hb => Nat.lt_of_lt_of_le (hlt0 b (by simp [hsub b hb])) honly.size
            have HIH := hide (ih s B c' b1 wr g (k * 10) cur xs1 rest (by omega) (by omega) hs1 hnd1 hb1lt (fun hb => hng (hsub g hb)) hrow hx hx1')
            have HSub := hide hsub
            clear hrow hrest hd hx hx1 hx1' hput htk hnd1 hs1 hb1lt hgb honly hsub
            go_wp2_with fail
            refine HIH.out.mono ?_
            rintro e w1 ⟨rfl, cur2, hb2, hx2, ho2, hon2⟩
            have H2 := hide (And.intro hb2 (And.intro (HP.out w1 (s.raise 1) (T.raise_len 1 s) (hon2.same fun b hb => ⟨Nat.lt_of_lt_of_le (hlt0 b (by simp [hb.1])) HR.out.2.1.size, fun h => h.elim (fun e => hng (e ▸ hb.1)) (fun h => hb.2 h)⟩) ho2) (And.intro (HR.out.2.1.then hon2 (fun b _ hb => hb.elim (fun e => .inr (.inl e)) (fun h => .inr (.inr (HSub.out b h))))) ((hon2.block gb HR.out.2.2.lt (fun h => h.elim hgg (fun h => hgbs (List.mem_cons_of_mem g (HSub.out gb h))))).trans HR.out.2.2))))
            have HX2 := hide hx2
            clear hb2 hx2 ho2 hon2 HIH HP n1
            go_wp2_with fail
            go_roundw
            case rel => exact ⟨k + 1, cur2, by go_num, hlt, H2.out.1, by rw [HX2.out, HT.out, List.append_assoc]; exact H2.out.2.1, H2.out.2.2.1, H2.out.2.2.2⟩
            case measure => simp [intOf]; omega
          · have g1 : decide ((k : Int) < (l.length : Int)) = false := decide_eq_false (by omega)
            have he : k = l.length := by omega
            have hfin : TL.Own wr (TL.raise 1 l) cur.toList bs' := by
              rw [he, List.take_length, List.drop_length, List.append_nil] at hrest
              exact hrest
            have HFi := hide hfin
            clear hrow hrest honly hgb hfin he
            go_wp2_with fail
            go_end0
            refine ⟨rfl, cur1, HR.out.2.2, HC2.out, ?_, HR.out.2.1.mono fun b _ hb => by simpa using hb⟩
            exact T.Own_iff.2 (.inr ⟨g, cur, bs', rfl, rfl, HR.out.1, by rw [T.raise_subs]; exact HFi.out⟩)
    · skip
      have g7 : (kind == 7) = false := by rw [beq_eq_false_iff_ne]; exact hk7
      have HH2 := hide (HH.out.trans (if_neg hk7))
      clear HH
      go_enter Tryd.func9, Tryd.ntmps9
      go_upto_region 2 with fail
      obtain ⟨W1, hW1⟩ : ∃ W1, W1 = w := ⟨_, rfl⟩
      obtain ⟨cur1, hcur1⟩ : ∃ cur1, cur1 = cur := ⟨_, rfl⟩
      have HB1 := hide (show Blk W1 gb 28 cur1 ∧ Only (fun b => b = gb) w W1 from by rw [hW1, hcur1]; exact ⟨HW.out.1, Only.refl _ _⟩)
      have HC2 := hide (show cur1.toList = pre ++ (h'.cells (.slice A l.length c) ++ post) from by rw [HH2.out, hcur1]; exact HW.out.2)
      have HC1 := hide (show cur1.toList.drop kk = Hd.cells ⟨kind, s0, s1, s2, s3, num, mn, mx, bare⟩ (.slice A l.length c) ++ post from by rw [hcur1, HW.out.2, ← HPre.out, List.drop_left])
      rw [← hW1]
      clear hW1 hcur1 n0 f0 HH2 g7
      have n0 := (HC1.out ▸ HB1.out.1.cellsAt kk).left.node
      rcases hown' with ⟨rfl, rfl⟩ | ⟨g, cur0, bs', rfl, rfl, hrow0, hrest0⟩
      · go_wp2_with fail
        refine wp_loop_rounds 1 ?_
        rw [rounds_succ]
        go_wp2_with fail
        go_end0
        refine ⟨rfl, cur1, HB1.out.1, HC2.out, T.Own_iff.2 (.inl ⟨by rw [T.raise_subs]; rfl, rfl⟩), HB1.out.2.mono fun b _ hb => .inl hb⟩
      · have hng : g ∉ bs' := (List.nodup_cons.1 hnd).1
        have hnd' := (List.nodup_cons.1 hnd).2
        have hgg : gb ≠ g := fun e => hgbs (by simp [e])
        have H1 := hide (And.intro HB1.out.1 (And.intro (show Blk W1 g 28 cur0 from (HB1.out.2.block g hrow0.lt (fun e => hgg e.symm)).trans hrow0) (And.intro (show TL.Own W1 l cur0.toList bs' from hrest0.same (HB1.out.2.same fun b hb => ⟨hlt0 b (by simp [hb]), fun e => hgbs (by rw [← e]; simp [hb])⟩)) (show Only (fun b => b = gb ∨ b = g ∨ b ∈ bs') w W1 from HB1.out.2.mono fun b _ hb => .inl hb))))
        clear hrow0 hrest0 HB1
        go_wp2_with fail
        clear n0
        go_loopw [20] (fun kv wr => ∃ (k : Nat) (cur : Array Value), kv = .int .i64 k ∧ k ≤ l.length ∧ Blk wr g 28 cur ∧ TL.Own wr (TL.raise 1 (l.take k) ++ l.drop k) cur.toList bs' ∧ Only (fun b => b = gb ∨ b = g ∨ b ∈ bs') w wr ∧ Blk wr gb 28 cur1)
          (fun kv _ => l.length - (intOf kv).toNat)
        case atStart => exact ⟨0, cur0, rfl, Nat.zero_le _, H1.out.2.1, by simpa [TL.raise] using H1.out.2.2.1, H1.out.2.2.2, H1.out.1⟩
        case round =>
          obtain ⟨k, cur, rfl, hk, hrow, hrest, honly, hgb⟩ := hrel
          have HR := hide (And.intro hrow (And.intro honly hgb))
          have n1 := (HC1.out ▸ hgb.cellsAt kk).left.node
          by_cases hlt : k < l.length
          · have g1 : decide ((k : Int) < (l.length : Int)) = true := decide_eq_true (by omega)
            have hd : l.drop k = l[k] :: l.drop (k + 1) := List.drop_eq_getElem_cons hlt
            have htk : TL.raise 1 (l.take (k + 1)) = TL.raise 1 (l.take k) ++ [l[k].raise 1] := by rw [List.take_succ_eq_append_getElem hlt, TL.raise_snoc]
            have hsn := TL.nodes_mem (List.getElem_mem hlt)
            generalize l[k] = s at *
            rw [hd] at hrest
            obtain ⟨xs1, B, c', b1, rest, hx, hx1, hsub, hnd1, hs1, hput⟩ := TL.Own.split6 hrest hnd'
            have hx1' : xs1.length = k * 10 := by rw [hx1, TL.raise_length, List.length_take, Nat.min_eq_left (by omega)]
            have HP := hide hput
            have HT := hide htk
            have hb1lt : ∀ b ∈ b1, b < wr.heap.size := fun b hb => Nat.lt_of_lt_of_le (hlt0 b (by simp [hsub b hb])) honly.size
            have HIH := hide (ih s B c' b1 wr g (k * 10) cur xs1 rest (by omega) (by omega) hs1 hnd1 hb1lt (fun hb => hng (hsub g hb)) hrow hx hx1')
            have HSub := hide hsub
            clear hrow hrest hd hx hx1 hx1' hput htk hnd1 hs1 hb1lt hgb honly hsub
            go_wp2_with fail
            refine HIH.out.mono ?_
            rintro e w1 ⟨rfl, cur2, hb2, hx2, ho2, hon2⟩
            have H2 := hide (And.intro hb2 (And.intro (HP.out w1 (s.raise 1) (T.raise_len 1 s) (hon2.same fun b hb => ⟨Nat.lt_of_lt_of_le (hlt0 b (by simp [hb.1])) HR.out.2.1.size, fun h => h.elim (fun e => hng (e ▸ hb.1)) (fun h => hb.2 h)⟩) ho2) (And.intro (HR.out.2.1.then hon2 (fun b _ hb => hb.elim (fun e => .inr (.inl e)) (fun h => .inr (.inr (HSub.out b h))))) ((hon2.block gb HR.out.2.2.lt (fun h => h.elim hgg (fun h => hgbs (List.mem_cons_of_mem g (HSub.out gb h))))).trans HR.out.2.2))))
            have HX2 := hide hx2
            clear hb2 hx2 ho2 hon2 HIH HP n1
            go_wp2_with fail
            go_roundw
            case rel => exact ⟨k + 1, cur2, by go_num, hlt, H2.out.1, by rw [HX2.out, HT.out, List.append_assoc]; exact H2.out.2.1, H2.out.2.2.1, H2.out.2.2.2⟩
            case measure => simp [intOf]; omega
          · have g1 : decide ((k : Int) < (l.length : Int)) = false := decide_eq_false (by omega)
            have he : k = l.length := by omega
            have hfin : TL.Own wr (TL.raise 1 l) cur.toList bs' := by
              rw [he, List.take_length, List.drop_length, List.append_nil] at hrest
              exact hrest
            have HFi := hide hfin
            clear hrow hrest honly hgb hfin he
            go_wp2_with fail
            go_end0
            refine ⟨rfl, cur1, HR.out.2.2, HC2.out, ?_, HR.out.2.1.mono fun b _ hb => by simpa using hb⟩
            exact T.Own_iff.2 (.inr ⟨g, cur, bs', rfl, rfl, HR.out.1, by rw [T.raise_subs]; exact HFi.out⟩)
end Go.Proofs.YtpkcklpjbeginaaDoor
