/- trawllaw06.raise, raised: all the groups' numbers of a tree, so many more. (Printed by gen_raise6.py.) -/
import Derived.Test.YtfehmfifjidjjaaDoorJoinP6
import Derived.Test.YtfehmfifjidjjaaDoorOnly
import Derived.Test.YtfehmfifjidjjaaDoorTurns
import Derived.Test.YtfehmfifjidjjaaDoorSames
set_option linter.unusedSimpArgs false
set_option linter.unusedVariables false
namespace Go.Proofs.YtfehmfifjidjjaaDoor
open Go.RowKit

/-- The k-th of the trees that lie in a row; another one may stand in its place. -/
theorem TL.Own.split6 {w : World} {t : T} {l2 : List T} : ∀ {l1 : List T} {xs : List Value} {bs : List Nat}, TL.Own w (l1 ++ t :: l2) xs bs → bs.Nodup →
    ∃ xs1 B c b1 rest, xs = xs1 ++ (t.hd.cells (.slice B t.subs.length c) ++ rest) ∧ xs1.length = l1.length * 10 ∧ (∀ b ∈ b1, b ∈ bs) ∧ b1.Nodup ∧ T.Own w t B b1 ∧
      ∀ (w' : World) (t' : T), t'.subs.length = t.subs.length → Same (fun b => b ∈ bs ∧ b ∉ b1) w w' → T.Own w' t' B b1 → TL.Own w' (l1 ++ t' :: l2) (xs1 ++ (t'.hd.cells (.slice B t.subs.length c) ++ rest)) bs
  | [], xs, bs, ⟨B, c, b1, b2, rest, h1, h2, h3, h4⟩, hn => by
    subst h2
    have hd := List.nodup_append.1 hn
    refine ⟨[], B, c, b1, rest, by simpa using h1, rfl, fun b hb => by simp [hb], hd.1, h3, fun w' t' hl hs ht => ?_⟩
    exact ⟨B, c, b1, b2, rest, by rw [hl]; rfl, rfl, ht, h4.same (hs.mono fun b hb => ⟨by simp [hb], fun hb' => hd.2.2 b hb' b hb rfl⟩)⟩
  | x :: l1, xs, bs, ⟨Bx, cx, bx, b2, rest0, h1, h2, h3, h4⟩, hn => by
    subst h2
    have hd := List.nodup_append.1 hn
    obtain ⟨xs1, B, c, b1, rest, e1, e2, e3, e4, e5, e6⟩ := TL.Own.split6 (l1 := l1) h4 hd.2.1
    refine ⟨x.hd.cells (.slice Bx x.subs.length cx) ++ xs1, B, c, b1, rest, by rw [h1, e1]; simp, by simp [Hd.cells_length, e2]; omega, fun b hb => by simp [e3 b hb], e4, e5, fun w' t' hl hs ht => ?_⟩
    exact ⟨Bx, cx, bx, b2, xs1 ++ (t'.hd.cells (.slice B t.subs.length c) ++ rest), by simp, rfl, h3.same (hs.mono fun b hb => ⟨by simp [hb], fun hb' => hd.2.2 b hb b (e3 b hb') rfl⟩), e6 w' t' hl (hs.mono fun b hb => ⟨by simp [hb.1], hb.2⟩) ht⟩
theorem T.raise_subs (n : Int) (t : T) : (t.raise n).subs = TL.raise n t.subs := by cases t; rfl
theorem T.raise_hd (n : Int) (t : T) : (t.raise n).hd = if t.hd.kind = 7 then { t.hd with num := IntKind.i64.wrap (t.hd.num + n) } else t.hd := by cases t; rfl
theorem T.raise_len (n : Int) (t : T) : (t.raise n).subs.length = t.subs.length := by rw [T.raise_subs, TL.raise_length]
theorem set_mid {pre post : List Value} {xs : List Value} {k j : Nat} {v : Value} (hk : pre.length = k) (hj : j < xs.length) : (pre ++ (xs ++ post)).set (k + j) v = pre ++ (xs.set j v ++ post) := by
  rw [List.set_append_right _ _ (by omega), List.set_append_left _ _ (by omega)]
  congr 3
  omega
set_option maxRecDepth 100000 in
set_option maxHeartbeats 4000000 in
theorem raise_any (n : Int) (N : Nat) : ∀ (t : T) (A : Option Addr) (c : Nat) (bs : List Nat) (w : World) (gb kk : Nat) (cur : Array Value) (pre post : List Value), t.nodes ≤ N → N ≤ 1000000 → T.Own w t A bs → bs.Nodup → (∀ b ∈ bs, b < w.heap.size) → gb ∉ bs →
    Blk w gb 28 cur → cur.toList = pre ++ (t.hd.cells (.slice A t.subs.length c) ++ post) → pre.length = kk →
    Calls Tryd.prog 29 #[.pointer (some ⟨gb, kk, none⟩), .int .i64 n] w fun e w' => e = .returned (.tuple #[]) ∧ ∃ cur', Blk w' gb 28 cur' ∧ cur'.toList = pre ++ ((t.raise n).hd.cells (.slice A t.subs.length c) ++ post) ∧ T.Own w' (t.raise n) A bs ∧ Only (fun b => b = gb ∨ b ∈ bs) w w' := by
  induction N with
  | zero => intro t A c bs w gb kk cur pre post h; have := t.nodes_pos; omega
  | succ N ih =>
    intro t A c bs w gb kk cur pre post hN hM hown hnd hlt0 hgbs hblk hcur hpre
    have hown' := T.Own_iff.1 hown
    have hhd := T.raise_hd n t
    obtain ⟨h', hh'⟩ : ∃ h', h' = (t.raise n).hd := ⟨_, rfl⟩
    rw [← hh'] at hhd ⊢
    clear hh'
    obtain ⟨h, l⟩ := t
    obtain ⟨kind, s0, s1, s2, s3, num, mn, mx, bare⟩ := h
    have hlen := T.length_lt (T.mk ⟨kind, s0, s1, s2, s3, num, mn, mx, bare⟩ l)
    simp only [T.nodes] at hN
    simp only [T.nodes, T.hd, T.subs] at hlen hown' hcur hhd ⊢
    have hc0 : cur.toList.drop kk = (Hd.cells ⟨kind, s0, s1, s2, s3, num, mn, mx, bare⟩ (.slice A l.length c)) ++ post := by rw [hcur, ← hpre, List.drop_left]
    have n0 := (hc0 ▸ hblk.cellsAt kk).left.node
    have f0 := hblk.frozen
    have HW := hide (And.intro hblk hcur)
    have HPre := hide hpre
    have HH := hide hhd
    clear hblk hcur hc0 hpre hhd hown
    by_cases hk7 : kind = 7
    · skip
      subst hk7
      have HH2 := hide (HH.out.trans (if_pos rfl))
      clear HH
      go_enter Tryd.func29, Tryd.ntmps29
      go_upto_region 2 with fail
      have hb1 := HW.out.1.set_ (kk + 6) (.int .i64 (wrap64 (num + n)))
      have hcl : (cur.setIfInBounds (kk + 6) (.int .i64 (wrap64 (num + n)))).toList = pre ++ (Hd.cells ⟨7, s0, s1, s2, s3, wrap64 (num + n), mn, mx, bare⟩ (.slice A l.length c) ++ post) := by
        rw [Array.toList_setIfInBounds, HW.out.2, set_mid HPre.out (by rw [Hd.cells_length]; omega)]
        rfl
      have ho1 : Only (fun b => b = gb) w (w.setCell ⟨gb, kk + 6, none⟩ (.int .i64 (wrap64 (num + n)))) := (Only.refl (fun b => b = gb) w).setCell (p := ⟨gb, kk + 6, none⟩) (.inl rfl) _
      generalize (cur.setIfInBounds (kk + 6) (.int .i64 (wrap64 (num + n)))) = cur1 at *
      generalize (w.setCell ⟨gb, kk + 6, none⟩ (.int .i64 (wrap64 (num + n)))) = W1 at *
      have HB1 := hide (And.intro hb1 ho1)
      have HC2 := hide (show cur1.toList = pre ++ (h'.cells (.slice A l.length c) ++ post) from by rw [HH2.out, IntWalk.i64_left]; exact hcl)
      have HC1 := hide (show cur1.toList.drop kk = Hd.cells ⟨7, s0, s1, s2, s3, wrap64 (num + n), mn, mx, bare⟩ (.slice A l.length c) ++ post from by rw [hcl, ← HPre.out, List.drop_left])
      clear hcl hb1 ho1 n0 f0 HH2
      have n0 := (HC1.out ▸ HB1.out.1.cellsAt kk).left.node
      rcases hown' with ⟨rfl, rfl⟩ | ⟨g, cur0, bs', rfl, rfl, hrow0, hrest0⟩
      · go_wp2_with fail
        refine wp_loop_rounds 1 ?_
        rw [rounds_succ]
        go_wp2_with fail
        go_end0
        refine ⟨rfl, cur1, HB1.out.1, HC2.out, T.Own_iff.2 (.inl ⟨by rw [T.raise_subs]; rfl, rfl⟩), HB1.out.2.mono fun b _ hb => .inl hb⟩
      · have hng : g ∉ bs' := (List.nodup_cons.1 hnd).1
        have hnd' := (List.nodup_cons.1 hnd).2
        have hgg : gb ≠ g := fun e => hgbs (by simp [e])
        have H1 := hide (And.intro HB1.out.1 (And.intro (show Blk W1 g 28 cur0 from (HB1.out.2.block g hrow0.lt (fun e => hgg e.symm)).trans hrow0) (And.intro (show TL.Own W1 l cur0.toList bs' from hrest0.same (HB1.out.2.same fun b hb => ⟨hlt0 b (by simp [hb]), fun e => hgbs (by rw [← e]; simp [hb])⟩)) (show Only (fun b => b = gb ∨ b = g ∨ b ∈ bs') w W1 from HB1.out.2.mono fun b _ hb => .inl hb))))
        clear hrow0 hrest0 HB1
        go_wp2_with fail
        clear n0
        go_loopw [23] (fun kv wr => ∃ (k : Nat) (cur : Array Value), kv = .int .i64 k ∧ k ≤ l.length ∧ Blk wr g 28 cur ∧ TL.Own wr (TL.raise n (l.take k) ++ l.drop k) cur.toList bs' ∧ Only (fun b => b = gb ∨ b = g ∨ b ∈ bs') w wr ∧ Blk wr gb 28 cur1)
          (fun kv _ => l.length - (intOf kv).toNat)
        case atStart => exact ⟨0, cur0, rfl, Nat.zero_le _, H1.out.2.1, by simpa [TL.raise] using H1.out.2.2.1, H1.out.2.2.2, H1.out.1⟩
        case round =>
          obtain ⟨k, cur, rfl, hk, hrow, hrest, honly, hgb⟩ := hrel
          have HR := hide (And.intro hrow (And.intro honly hgb))
          have n1 := (HC1.out ▸ hgb.cellsAt kk).left.node
          by_cases hlt : k < l.length
          · have g1 : decide ((k : Int) < (l.length : Int)) = true := decide_eq_true (by omega)
            have hd : l.drop k = l[k] :: l.drop (k + 1) := List.drop_eq_getElem_cons hlt
            have htk : TL.raise n (l.take (k + 1)) = TL.raise n (l.take k) ++ [l[k].raise n] := by rw [List.take_succ_eq_append_getElem hlt, TL.raise_snoc]
            have hsn := TL.nodes_mem (List.getElem_mem hlt)
            generalize l[k] = s at *
            rw [hd] at hrest
            obtain ⟨xs1, B, c', b1, rest, hx, hx1, hsub, hnd1, hs1, hput⟩ := TL.Own.split6 hrest hnd'
            have hx1' : xs1.length = k * 10 := by rw [hx1, TL.raise_length, List.length_take, Nat.min_eq_left (by omega)]
            have HP := hide hput
            have HT := hide htk
            have hb1lt : ∀ b ∈ b1, b < wr.heap.size := fun b hb => Nat.lt_of_lt_of_le (hlt0 b (by simp [hsub b hb])) honly.size
            have HIH := hide (ih s B c' b1 wr g (k * 10) cur xs1 rest (by omega) (by omega) hs1 hnd1 hb1lt (fun hb => hng (hsub g hb)) hrow hx hx1')
            have HSub := hide hsub
            clear hrow hrest hd hx hx1 hx1' hput htk hnd1 hs1 hb1lt hgb honly hsub
            go_wp2_with fail
            refine HIH.out.mono ?_
            rintro e w1 ⟨rfl, cur2, hb2, hx2, ho2, hon2⟩
            have H2 := hide (And.intro hb2 (And.intro (HP.out w1 (s.raise n) (T.raise_len n s) (hon2.same fun b hb => ⟨Nat.lt_of_lt_of_le (hlt0 b (by simp [hb.1])) HR.out.2.1.size, fun h => h.elim (fun e => hng (e ▸ hb.1)) (fun h => hb.2 h)⟩) ho2) (And.intro (HR.out.2.1.then hon2 (fun b _ hb => hb.elim (fun e => .inr (.inl e)) (fun h => .inr (.inr (HSub.out b h))))) ((hon2.block gb HR.out.2.2.lt (fun h => h.elim hgg (fun h => hgbs (List.mem_cons_of_mem g (HSub.out gb h))))).trans HR.out.2.2))))
            have HX2 := hide hx2
            clear hb2 hx2 ho2 hon2 HIH HP n1
            go_wp2_with fail
            go_roundw
            case rel => exact ⟨k + 1, cur2, by go_num, hlt, H2.out.1, by rw [HX2.out, HT.out, List.append_assoc]; exact H2.out.2.1, H2.out.2.2.1, H2.out.2.2.2⟩
            case measure => simp [intOf]; omega
          · have g1 : decide ((k : Int) < (l.length : Int)) = false := decide_eq_false (by omega)
            have he : k = l.length := by omega
            have hfin : TL.Own wr (TL.raise n l) cur.toList bs' := by
              rw [he, List.take_length, List.drop_length, List.append_nil] at hrest
              exact hrest
            have HFi := hide hfin
            clear hrow hrest honly hgb hfin he
            go_wp2_with fail
            go_end0
            refine ⟨rfl, cur1, HR.out.2.2, HC2.out, ?_, HR.out.2.1.mono fun b _ hb => by simpa using hb⟩
            exact T.Own_iff.2 (.inr ⟨g, cur, bs', rfl, rfl, HR.out.1, by rw [T.raise_subs]; exact HFi.out⟩)
    · skip
      have g7 : (kind == 7) = false := by rw [beq_eq_false_iff_ne]; exact hk7
      have HH2 := hide (HH.out.trans (if_neg hk7))
      clear HH
      go_enter Tryd.func29, Tryd.ntmps29
      go_upto_region 2 with fail
      obtain ⟨W1, hW1⟩ : ∃ W1, W1 = w := ⟨_, rfl⟩
      obtain ⟨cur1, hcur1⟩ : ∃ cur1, cur1 = cur := ⟨_, rfl⟩
      have HB1 := hide (show Blk W1 gb 28 cur1 ∧ Only (fun b => b = gb) w W1 from by rw [hW1, hcur1]; exact ⟨HW.out.1, Only.refl _ _⟩)
      have HC2 := hide (show cur1.toList = pre ++ (h'.cells (.slice A l.length c) ++ post) from by rw [HH2.out, hcur1]; exact HW.out.2)
      have HC1 := hide (show cur1.toList.drop kk = Hd.cells ⟨kind, s0, s1, s2, s3, num, mn, mx, bare⟩ (.slice A l.length c) ++ post from by rw [hcur1, HW.out.2, ← HPre.out, List.drop_left])
      rw [← hW1]
      clear hW1 hcur1 n0 f0 HH2 g7
      have n0 := (HC1.out ▸ HB1.out.1.cellsAt kk).left.node
      rcases hown' with ⟨rfl, rfl⟩ | ⟨g, cur0, bs', rfl, rfl, hrow0, hrest0⟩
      · go_wp2_with fail
        refine wp_loop_rounds 1 ?_
        rw [rounds_succ]
        go_wp2_with fail
        go_end0
        refine ⟨rfl, cur1, HB1.out.1, HC2.out, T.Own_iff.2 (.inl ⟨by rw [T.raise_subs]; rfl, rfl⟩), HB1.out.2.mono fun b _ hb => .inl hb⟩
      · have hng : g ∉ bs' := (List.nodup_cons.1 hnd).1
        have hnd' := (List.nodup_cons.1 hnd).2
        have hgg : gb ≠ g := fun e => hgbs (by simp [e])
        have H1 := hide (And.intro HB1.out.1 (And.intro (show Blk W1 g 28 cur0 from (HB1.out.2.block g hrow0.lt (fun e => hgg e.symm)).trans hrow0) (And.intro (show TL.Own W1 l cur0.toList bs' from hrest0.same (HB1.out.2.same fun b hb => ⟨hlt0 b (by simp [hb]), fun e => hgbs (by rw [← e]; simp [hb])⟩)) (show Only (fun b => b = gb ∨ b = g ∨ b ∈ bs') w W1 from HB1.out.2.mono fun b _ hb => .inl hb))))
        clear hrow0 hrest0 HB1
        go_wp2_with fail
        clear n0
        go_loopw [23] (fun kv wr => ∃ (k : Nat) (cur : Array Value), kv = .int .i64 k ∧ k ≤ l.length ∧ Blk wr g 28 cur ∧ TL.Own wr (TL.raise n (l.take k) ++ l.drop k) cur.toList bs' ∧ Only (fun b => b = gb ∨ b = g ∨ b ∈ bs') w wr ∧ Blk wr gb 28 cur1)
          (fun kv _ => l.length - (intOf kv).toNat)
        case atStart => exact ⟨0, cur0, rfl, Nat.zero_le _, H1.out.2.1, by simpa [TL.raise] using H1.out.2.2.1, H1.out.2.2.2, H1.out.1⟩
        case round =>
          obtain ⟨k, cur, rfl, hk, hrow, hrest, honly, hgb⟩ := hrel
          have HR := hide (And.intro hrow (And.intro honly hgb))
          have n1 := (HC1.out ▸ hgb.cellsAt kk).left.node
          by_cases hlt : k < l.length
          · have g1 : decide ((k : Int) < (l.length : Int)) = true := decide_eq_true (by omega)
            have hd : l.drop k = l[k] :: l.drop (k + 1) := List.drop_eq_getElem_cons hlt
            have htk : TL.raise n (l.take (k + 1)) = TL.raise n (l.take k) ++ [l[k].raise n] := by rw [List.take_succ_eq_append_getElem hlt, TL.raise_snoc]
            have hsn := TL.nodes_mem (List.getElem_mem hlt)
            generalize l[k] = s at *
            rw [hd] at hrest
            obtain ⟨xs1, B, c', b1, rest, hx, hx1, hsub, hnd1, hs1, hput⟩ := TL.Own.split6 hrest hnd'
            have hx1' : xs1.length = k * 10 := by rw [hx1, TL.raise_length, List.length_take, Nat.min_eq_left (by omega)]
            have HP := hide hput
            have HT := hide htk
            have hb1lt : ∀ b ∈ b1, b < wr.heap.size := fun b hb => Nat.lt_of_lt_of_le (hlt0 b (by simp [hsub b hb])) honly.size
            have HIH := hide (ih s B c' b1 wr g (k * 10) cur xs1 rest (by omega) (by omega) hs1 hnd1 hb1lt (fun hb => hng (hsub g hb)) hrow hx hx1')
            have HSub := hide hsub
            clear hrow hrest hd hx hx1 hx1' hput htk hnd1 hs1 hb1lt hgb honly hsub
            go_wp2_with fail
            refine HIH.out.mono ?_
            rintro e w1 ⟨rfl, cur2, hb2, hx2, ho2, hon2⟩
            have H2 := hide (And.intro hb2 (And.intro (HP.out w1 (s.raise n) (T.raise_len n s) (hon2.same fun b hb => ⟨Nat.lt_of_lt_of_le (hlt0 b (by simp [hb.1])) HR.out.2.1.size, fun h => h.elim (fun e => hng (e ▸ hb.1)) (fun h => hb.2 h)⟩) ho2) (And.intro (HR.out.2.1.then hon2 (fun b _ hb => hb.elim (fun e => .inr (.inl e)) (fun h => .inr (.inr (HSub.out b h))))) ((hon2.block gb HR.out.2.2.lt (fun h => h.elim hgg (fun h => hgbs (List.mem_cons_of_mem g (HSub.out gb h))))).trans HR.out.2.2))))
            have HX2 := hide hx2
            clear hb2 hx2 ho2 hon2 HIH HP n1
            go_wp2_with fail
            go_roundw
            case rel => exact ⟨k + 1, cur2, by go_num, hlt, H2.out.1, by rw [HX2.out, HT.out, List.append_assoc]; exact H2.out.2.1, H2.out.2.2.1, H2.out.2.2.2⟩
            case measure => simp [intOf]; omega
          · have g1 : decide ((k : Int) < (l.length : Int)) = false := decide_eq_false (by omega)
            have he : k = l.length := by omega
            have hfin : TL.Own wr (TL.raise n l) cur.toList bs' := by
              rw [he, List.take_length, List.drop_length, List.append_nil] at hrest
              exact hrest
            have HFi := hide hfin
            clear hrow hrest honly hgb hfin he
            go_wp2_with fail
            go_end0
            refine ⟨rfl, cur1, HR.out.2.2, HC2.out, ?_, HR.out.2.1.mono fun b _ hb => by simpa using hb⟩
            exact T.Own_iff.2 (.inr ⟨g, cur, bs', rfl, rfl, HR.out.1, by rw [T.raise_subs]; exact HFi.out⟩)
set_option maxRecDepth 100000 in
set_option maxHeartbeats 2000000 in
theorem raised_any (n : Int) (t : T) (A : Option Addr) (c : Nat) (w : World) (hN : t.nodes ≤ 1000000) (hin : T.In w (· < w.heap.size) t A) :
    Calls Tryd.prog 14 #[.agg (t.hd.cells (.slice A t.subs.length c)).toArray, .int .i64 n] w (Fresh (t.raise n) w) := by
  have hal1 := (Below.refl w.heap.size w).alloc (Nat.le_refl _) (.cells #[.int .i64 t.hd.kind, .int .u64 t.hd.s0, .int .u64 t.hd.s1, .int .u64 t.hd.s2, .int .u64 t.hd.s3, .slice A t.subs.length c, .int .i64 t.hd.num, .int .i64 t.hd.min, .int .i64 t.hd.max, .bool t.hd.bare] 28)
  have hsz1 : (w.alloc (.cells #[.int .i64 t.hd.kind, .int .u64 t.hd.s0, .int .u64 t.hd.s1, .int .u64 t.hd.s2, .int .u64 t.hd.s3, .slice A t.subs.length c, .int .i64 t.hd.num, .int .i64 t.hd.min, .int .i64 t.hd.max, .bool t.hd.bare] 28)).heap.size = w.heap.size + 1 := World.size_alloc _ _
  have hal := hal1.alloc hal1.size (.cells #[.int .i64 0, .int .u64 0, .int .u64 0, .int .u64 0, .int .u64 0, .slice none 0 0, .int .i64 0, .int .i64 0, .int .i64 0, .bool false] 28)
  have hR := Blk.new (w.alloc (.cells #[.int .i64 t.hd.kind, .int .u64 t.hd.s0, .int .u64 t.hd.s1, .int .u64 t.hd.s2, .int .u64 t.hd.s3, .slice A t.subs.length c, .int .i64 t.hd.num, .int .i64 t.hd.min, .int .i64 t.hd.max, .bool t.hd.bare] 28)) 28 #[.int .i64 0, .int .u64 0, .int .u64 0, .int .u64 0, .int .u64 0, .slice none 0 0, .int .i64 0, .int .i64 0, .int .i64 0, .bool false]
  have hT := (Blk.new w 28 #[.int .i64 t.hd.kind, .int .u64 t.hd.s0, .int .u64 t.hd.s1, .int .u64 t.hd.s2, .int .u64 t.hd.s3, .slice A t.subs.length c, .int .i64 t.hd.num, .int .i64 t.hd.min, .int .i64 t.hd.max, .bool t.hd.bare]).alloc (.cells #[.int .i64 0, .int .u64 0, .int .u64 0, .int .u64 0, .int .u64 0, .slice none 0 0, .int .i64 0, .int .i64 0, .int .i64 0, .bool false] 28)
  rw [hsz1] at hR
  have H0 := hide (And.intro hal (And.intro hR (And.intro hT (hin.next hal))))
  have HS0 := hide (show w.heap.size + 2 ≤ ((w.alloc (.cells #[.int .i64 t.hd.kind, .int .u64 t.hd.s0, .int .u64 t.hd.s1, .int .u64 t.hd.s2, .int .u64 t.hd.s3, .slice A t.subs.length c, .int .i64 t.hd.num, .int .i64 t.hd.min, .int .i64 t.hd.max, .bool t.hd.bare] 28)).alloc (.cells #[.int .i64 0, .int .u64 0, .int .u64 0, .int .u64 0, .int .u64 0, .slice none 0 0, .int .i64 0, .int .i64 0, .int .i64 0, .bool false] 28)).heap.size from by rw [World.size_alloc, hsz1]; omega)
  clear hal1 hsz1 hal hR hT hin
  simp only [Hd.cells]
  go_enter Tryd.func14, Tryd.ntmps14
  go_upto_region 1 with fail
  generalize ((w.alloc (.cells #[.int .i64 t.hd.kind, .int .u64 t.hd.s0, .int .u64 t.hd.s1, .int .u64 t.hd.s2, .int .u64 t.hd.s3, .slice A t.subs.length c, .int .i64 t.hd.num, .int .i64 t.hd.min, .int .i64 t.hd.max, .bool t.hd.bare] 28)).alloc (.cells #[.int .i64 0, .int .u64 0, .int .u64 0, .int .u64 0, .int .u64 0, .slice none 0 0, .int .i64 0, .int .i64 0, .int .i64 0, .bool false] 28)) = W at *
  have ct := H0.out.2.2.1.cell
  have HCp := hide (copyNode_any t.nodes t A c W (Nat.le_refl _) hN H0.out.2.2.2)
  simp only [Hd.cells] at HCp
  go_wp2_with fail
  refine HCp.out.mono ?_
  rintro e w1 ⟨B, c', bs, rfl, hown, hnd, hbs, hb1⟩
  have hal := (Below.refl w1.heap.size w1).alloc (Nat.le_refl _) (.cells #[.int .i64 t.hd.kind, .int .u64 t.hd.s0, .int .u64 t.hd.s1, .int .u64 t.hd.s2, .int .u64 t.hd.s3, .slice B t.subs.length c', .int .i64 t.hd.num, .int .i64 t.hd.min, .int .i64 t.hd.max, .bool t.hd.bare] 28)
  have H2 := hide (And.intro (H0.out.1.trans ((hb1.trans (hal.mono hb1.size)).mono H0.out.1.size)) (And.intro ((H0.out.2.1.next hb1).next hal) (And.intro (Blk.new w1 28 #[.int .i64 t.hd.kind, .int .u64 t.hd.s0, .int .u64 t.hd.s1, .int .u64 t.hd.s2, .int .u64 t.hd.s3, .slice B t.subs.length c', .int .i64 t.hd.num, .int .i64 t.hd.min, .int .i64 t.hd.max, .bool t.hd.bare]) (show T.Own (w1.alloc (.cells #[.int .i64 t.hd.kind, .int .u64 t.hd.s0, .int .u64 t.hd.s1, .int .u64 t.hd.s2, .int .u64 t.hd.s3, .slice B t.subs.length c', .int .i64 t.hd.num, .int .i64 t.hd.min, .int .i64 t.hd.max, .bool t.hd.bare] 28)) t B bs from hown.same (fun b hb => hal.block b (hbs b hb).2)))))
  have HBS := hide (And.intro hnd hbs)
  have HS1 := hide (show W.heap.size ≤ w1.heap.size from hb1.size)
  have HSA := hide (show (w1.alloc (.cells #[.int .i64 t.hd.kind, .int .u64 t.hd.s0, .int .u64 t.hd.s1, .int .u64 t.hd.s2, .int .u64 t.hd.s3, .slice B t.subs.length c', .int .i64 t.hd.num, .int .i64 t.hd.min, .int .i64 t.hd.max, .bool t.hd.bare] 28)).heap.size = w1.heap.size + 1 from World.size_alloc _ _)
  clear hal hown hnd hbs hb1 HCp ct
  go_upto_region 2 with fail
  generalize (w1.alloc (.cells #[.int .i64 t.hd.kind, .int .u64 t.hd.s0, .int .u64 t.hd.s1, .int .u64 t.hd.s2, .int .u64 t.hd.s3, .slice B t.subs.length c', .int .i64 t.hd.num, .int .i64 t.hd.min, .int .i64 t.hd.max, .bool t.hd.bare] 28)) = W1 at *
  have HRz := hide (raise_any n t.nodes t B c' bs W1 w1.heap.size 0 #[.int .i64 t.hd.kind, .int .u64 t.hd.s0, .int .u64 t.hd.s1, .int .u64 t.hd.s2, .int .u64 t.hd.s3, .slice B t.subs.length c', .int .i64 t.hd.num, .int .i64 t.hd.min, .int .i64 t.hd.max, .bool t.hd.bare] [] [] (Nat.le_refl _) hN H2.out.2.2.2 HBS.out.1 (fun b hb => by have := (HBS.out.2 b hb).2; have := HSA.out; omega) (fun h => by have := (HBS.out.2 _ h).2; omega) H2.out.2.2.1 (by simp [Hd.cells]) rfl)
  go_wp2_with fail
  refine HRz.out.mono ?_
  rintro e w2 ⟨rfl, cur', hb2, hx2, ho2, hon⟩
  have hcur : cur' = ((t.raise n).hd.cells (.slice B (t.raise n).subs.length c')).toArray := by
    rw [T.raise_len, ← List.append_nil ((t.raise n).hd.cells (.slice B t.subs.length c')), ← List.nil_append ((t.raise n).hd.cells (.slice B t.subs.length c') ++ []), ← hx2]
  subst hcur
  have H3 := hide (And.intro hb2 (And.intro ho2 (And.intro ((hon.block (w.heap.size + 1) H2.out.2.1.lt (fun h => by have h3 := HS1.out; have h4 := HS0.out; rcases h with h | h; omega; have := (HBS.out.2 _ h).1; omega)).trans H2.out.2.1) (H2.out.1.trans (hon.below (B := w.heap.size) H2.out.1.size (fun b hb => by have h3 := HS1.out; have h4 := HS0.out; rcases hb with h | h; omega; have := (HBS.out.2 _ h).1; omega))))))
  have HS2 := hide (show W1.heap.size ≤ w2.heap.size from hon.size)
  clear hb2 ho2 hon hx2 HRz
  go_wp2_with (first | (refine wpList_load_node rfl _ rfl w1.heap.size _ _ rfl H3.out.1 ?_) | (refine wpList_store_node rfl _ _ rfl (w.heap.size + 1) _ _ _ _ _ rfl rfl H3.out.2.2.1 rfl ?_; intro w9 hrow9 hg9 hz9))
  refine bodyPost_ret (node_result rfl _ _ (w.heap.size + 1) _ _ rfl hrow9) rfl ?_
  refine ⟨B, c', bs, rfl, H3.out.2.1.same (fun b hb => hg9.block b (by have h1 := (HBS.out.2 b hb).2; have h2 := HSA.out; have h3 := HS2.out; omega) (fun e => by have e := Option.some.inj e; have h1 := (HBS.out.2 b hb).1; have h3 := HS0.out; omega)), HBS.out.1, fun b hb => ⟨?_, ?_⟩, below_grew H3.out.2.2.2 hg9 (Nat.le_refl _) (fun q hq => by rw [← Option.some.inj hq]; omega)⟩
  · have h1 := (HBS.out.2 b hb).1; have h3 := HS0.out; omega
  · have h1 := (HBS.out.2 b hb).2; have h2 := HSA.out; have h3 := HS2.out; have h4 := hg9.size; omega
end Go.Proofs.YtfehmfifjidjjaaDoor
