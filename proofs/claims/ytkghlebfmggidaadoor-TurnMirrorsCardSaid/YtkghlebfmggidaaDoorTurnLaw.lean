/- The plain law: turned twice it is the tree; form, size, depth, groups stay. -/
import Derived.Test.YtkghlebfmggidaaDoorTurns
import Derived.Test.YtkghlebfmggidaaDoorCheck
namespace Go.Proofs.YtkghlebfmggidaaDoor

theorem Hd.turn_turn (h : Hd) : h.turn.turn = h := by
  obtain ⟨k, s0, s1, s2, s3, n, a, b, c⟩ := h
  by_cases h3 : k = 3
  · subst h3; simp [Hd.turn]
  · by_cases h4 : k = 4
    · subst h4; simp [Hd.turn]
    · simp [Hd.turn, h3, h4]
theorem Hd.turn_kind5 (h : Hd) : (h.turn.kind = 5) ↔ (h.kind = 5) := by
  unfold Hd.turn
  split
  · rename_i k; simp [k]
  · split
    · rename_i k; simp [k]
    · exact Iff.rfl
theorem Hd.turn_kind (h : Hd) (c : Int) (h3 : c ≠ 3) (h4 : c ≠ 4) : (h.turn.kind = c) ↔ (h.kind = c) := by
  unfold Hd.turn
  split
  · rename_i k; simp only [k]; omega
  · split
    · rename_i k; simp only [k]; omega
    · exact Iff.rfl
theorem Hd.turn_rest (h : Hd) : h.turn.s0 = h.s0 ∧ h.turn.s1 = h.s1 ∧ h.turn.s2 = h.s2 ∧ h.turn.s3 = h.s3 ∧ h.turn.num = h.num ∧ h.turn.min = h.min ∧ h.turn.max = h.max ∧ h.turn.bare = h.bare := by
  unfold Hd.turn
  split
  · exact ⟨rfl, rfl, rfl, rfl, rfl, rfl, rfl, rfl⟩
  · split <;> exact ⟨rfl, rfl, rfl, rfl, rfl, rfl, rfl, rfl⟩
theorem Hd.turn_134 (h : Hd) : (h.turn.kind = 1 ∨ h.turn.kind = 3 ∨ h.turn.kind = 4) ↔ (h.kind = 1 ∨ h.kind = 3 ∨ h.kind = 4) := by
  unfold Hd.turn
  split
  · rename_i k; simp [k]
  · split
    · rename_i k; simp [k]
    · exact Iff.rfl

mutual
theorem T.turn_turn : ∀ t : T, t.turn.turn = t
  | .mk h l => by
    have hl := TL.turn_turn l
    simp only [T.turn, Hd.turn_turn, Hd.turn_kind5]
    split
    · rw [TL.turn_eq, TL.turn_eq, List.map_reverse, List.reverse_reverse, ← TL.turn_eq, ← TL.turn_eq, hl]
    · rw [hl]
theorem TL.turn_turn : ∀ l : List T, TL.turn (TL.turn l) = l
  | [] => rfl
  | t :: l => by simp only [TL.turn, T.turn_turn t, TL.turn_turn l]
end

/-! ### nodes -/
theorem TL.nodes_append : ∀ a b : List T, TL.nodes (a ++ b) = TL.nodes a + TL.nodes b
  | [], b => by simp [TL.nodes]
  | t :: a, b => by simp only [List.cons_append, TL.nodes, TL.nodes_append a b]; omega
theorem TL.nodes_reverse : ∀ a : List T, TL.nodes a.reverse = TL.nodes a
  | [] => rfl
  | t :: a => by simp only [List.reverse_cons, TL.nodes_append, TL.nodes_reverse a, TL.nodes]; omega
mutual
theorem T.turn_nodes : ∀ t : T, t.turn.nodes = t.nodes
  | .mk h l => by
    simp only [T.turn]
    split <;> simp only [T.nodes, TL.nodes_reverse, TL.turn_nodes l]
theorem TL.turn_nodes : ∀ l : List T, TL.nodes (TL.turn l) = TL.nodes l
  | [] => rfl
  | t :: l => by simp only [TL.turn, TL.nodes, T.turn_nodes t, TL.turn_nodes l]
end

/-! ### folds over a list that is turned round -/
theorem foldl_one {α : Type} {p : α → Prop} {f : Int → α → Int} (hc : ∀ n a b, p a → p b → f (f n a) b = f (f n b) a) : ∀ (r : List α) (n : Int) (a : α), p a → (∀ x ∈ r, p x) → r.foldl f (f n a) = f (r.foldl f n) a
  | [], _, _, _, _ => rfl
  | b :: r, n, a, ha, h => by
    simp only [List.foldl_cons]
    rw [hc n a b ha (h b (by simp)), foldl_one hc r (f n b) a ha (fun x hx => h x (by simp [hx]))]
theorem foldl_rev {α : Type} {p : α → Prop} {f : Int → α → Int} (hc : ∀ n a b, p a → p b → f (f n a) b = f (f n b) a) : ∀ (l : List α) (n : Int), (∀ x ∈ l, p x) → l.reverse.foldl f n = l.foldl f n
  | [], _, _ => rfl
  | a :: r, n, h => by
    rw [List.reverse_cons, List.foldl_append, foldl_rev hc r n (fun x hx => h x (by simp [hx]))]
    simp only [List.foldl_cons, List.foldl_nil]
    exact (foldl_one hc r n a (h a (by simp)) (fun x hx => h x (by simp [hx]))).symm

theorem mx2_comm (n a b : Int) : mx2 (mx2 n a) b = mx2 (mx2 n b) a := by unfold mx2; repeat' split; all_goals omega
theorem mn2_comm (n a b : Int) (ha : 0 ≤ a) (hb : 0 ≤ b) : mn2 (mn2 (n + a) 2001 + b) 2001 = mn2 (mn2 (n + b) 2001 + a) 2001 := by unfold mn2; repeat' split; all_goals omega

/-! ### form -/
theorem TL.form_append : ∀ a b : List T, TL.form (a ++ b) = (TL.form a && TL.form b)
  | [], b => by simp [TL.form]
  | t :: a, b => by simp only [List.cons_append, TL.form, TL.form_append a b, Bool.and_assoc]
theorem TL.form_reverse : ∀ a : List T, TL.form a.reverse = TL.form a
  | [] => rfl
  | t :: a => by
    simp only [List.reverse_cons, TL.form_append, TL.form_reverse a, TL.form]
    cases t.form <;> cases TL.form a <;> rfl
theorem Hd.turn_formed (h : Hd) (n : Int) : h.turn.formed n = h.formed n := by
  obtain ⟨r0, r1, r2, r3, r4, r5, r6, r7⟩ := h.turn_rest
  simp only [Hd.formed, Hd.plain, Hd.noSet, r0, r1, r2, r3, r4, r5, r6, r7, Hd.turn_134, Hd.turn_kind h 2 (by decide) (by decide), Hd.turn_kind h 5 (by decide) (by decide), Hd.turn_kind h 6 (by decide) (by decide), Hd.turn_kind h 7 (by decide) (by decide), Hd.turn_kind h 8 (by decide) (by decide)]
theorem TL.turn_length (l : List T) : (TL.turn l).length = l.length := by rw [TL.turn_eq]; simp
mutual
theorem T.turn_form : ∀ t : T, t.turn.form = t.form
  | .mk h l => by
    have hl := TL.turn_form l
    simp only [T.turn, T.form, Hd.turn_formed]
    split
    · rw [List.length_reverse, TL.turn_length, TL.form_reverse, hl]
    · rw [TL.turn_length, hl]
theorem TL.turn_form : ∀ l : List T, TL.form (TL.turn l) = TL.form l
  | [] => rfl
  | t :: l => by simp only [TL.turn, TL.form, T.turn_form t, TL.turn_form l]
end

/-! ### depth and groups -/
theorem TL.depth_reverse (l : List T) (n : Int) : TL.depth l.reverse n = TL.depth l n := by
  rw [TL.depth_eq, TL.depth_eq]
  exact foldl_rev (p := fun _ => True) (fun n a b _ _ => mx2_comm n a.depth b.depth) l n (fun _ _ => trivial)
theorem TL.groups_reverse (l : List T) (n : Int) : TL.groups l.reverse n = TL.groups l n := by
  rw [TL.groups_eq, TL.groups_eq]
  exact foldl_rev (p := fun _ => True) (fun n a b _ _ => mx2_comm n a.groups b.groups) l n (fun _ _ => trivial)
theorem Hd.turn_deeper (h : Hd) (n : Nat) : h.turn.deeper n = h.deeper n := by
  obtain ⟨r0, r1, r2, r3, r4, r5, r6, r7⟩ := h.turn_rest
  have hk : (h.turn.kind == 8) = (h.kind == 8) := by
    rw [Bool.eq_iff_iff, beq_iff_eq, beq_iff_eq]
    exact Hd.turn_kind h 8 (by decide) (by decide)
  simp only [Hd.deeper, r5, r6, hk]
mutual
theorem T.turn_depth : ∀ t : T, t.turn.depth = t.depth
  | .mk h l => by
    have hl := TL.turn_depth l
    simp only [T.turn, T.depth, Hd.turn_deeper]
    by_cases k5 : h.kind = 5
    · simp only [if_pos k5, List.length_reverse, TL.turn_length, TL.depth_reverse, hl]
    · simp only [if_neg k5, TL.turn_length, hl]
theorem TL.turn_depth : ∀ (l : List T) (n : Int), TL.depth (TL.turn l) n = TL.depth l n
  | [], _ => rfl
  | t :: l, n => by simp only [TL.turn, TL.depth, T.turn_depth t, TL.turn_depth l]
end
mutual
theorem T.turn_groups : ∀ t : T, t.turn.groups = t.groups
  | .mk h l => by
    have hl := TL.turn_groups l
    obtain ⟨_, _, _, _, r4, _, _, _⟩ := h.turn_rest
    simp only [T.turn, T.groups, Hd.turn_kind h 7 (by decide) (by decide), r4]
    by_cases k5 : h.kind = 5
    · simp only [if_pos k5, TL.groups_reverse, hl]
    · simp only [if_neg k5, hl]
theorem TL.turn_groups : ∀ (l : List T) (n : Int), TL.groups (TL.turn l) n = TL.groups l n
  | [], _ => rfl
  | t :: l, n => by simp only [TL.turn, TL.groups, T.turn_groups t, TL.turn_groups l]
end

/-! ### size, of a tree in form -/
theorem TL.size_reverse (l : List T) (n : Int) (hf : TL.form l = true) : TL.size l.reverse n = TL.size l n := by
  rw [TL.size_eq, TL.size_eq]
  exact foldl_rev (p := fun t => 0 ≤ t.size) (fun n a b ha hb => mn2_comm n a.size b.size ha hb) l n (fun t ht => (T.size_bd t (TL.form_mem hf ht)).1)
theorem Hd.turn_grow (h : Hd) (n : Int) : h.turn.grow n = h.grow n := by
  obtain ⟨_, _, _, _, _, r5, r6, _⟩ := h.turn_rest
  simp only [Hd.grow, Hd.rounds, r5, r6, Hd.turn_kind h 8 (by decide) (by decide)]
mutual
theorem T.turn_size : ∀ t : T, t.form = true → t.turn.size = t.size
  | .mk h l, hf => by
    simp only [T.form, Bool.and_eq_true] at hf
    have hl := TL.turn_size l hf.2
    obtain ⟨_, _, _, _, _, _, r6, _⟩ := h.turn_rest
    simp only [T.turn, T.size, Hd.turn_grow, r6, Hd.turn_kind h 8 (by decide) (by decide)]
    by_cases k5 : h.kind = 5
    · simp only [if_pos k5, TL.size_reverse (TL.turn l) 0 (by rw [TL.turn_form]; exact hf.2), hl]
    · simp only [if_neg k5, hl]
theorem TL.turn_size : ∀ (l : List T), TL.form l = true → ∀ n, TL.size (TL.turn l) n = TL.size l n
  | [], _, _ => rfl
  | t :: l, hf, n => by
    simp only [TL.form, Bool.and_eq_true] at hf
    simp only [TL.turn, TL.size, T.turn_size t hf.1, TL.turn_size l hf.2]
end
theorem T.turn_fullSize (t : T) : t.turn.fullSize = t.fullSize := by
  unfold T.fullSize
  rw [T.turn_form]
  by_cases hf : t.form = true
  · rw [if_pos hf, if_pos hf, T.turn_size t hf]
  · rw [if_neg hf, if_neg hf]
theorem T.turn_check (t : T) : t.turn.check = t.check := by
  unfold T.check
  rw [T.turn_form, T.turn_depth]
  by_cases hf : t.form = true
  · rw [if_pos hf, if_pos hf, T.turn_size t hf]
  · rw [if_neg hf, if_neg hf]
end Go.Proofs.YtkghlebfmggidaaDoor
