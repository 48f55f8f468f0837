/- trawllaw11.ReachAlgebra: it returns true, and what was there stays. (Printed by gen_alg.py.) -/
import Derived.Test.YtkghlebfmggidaaDoorMade
import Derived.Test.YtkghlebfmggidaaDoorLong11
import Derived.Deep.DeepCutAuto
set_option linter.unusedSimpArgs false
set_option linter.unusedVariables false
set_option linter.unnecessarySimpa false
namespace Go.Proofs.YtkghlebfmggidaaDoor
open Go.RowKit

def AgreeFrom (kinds : List Kd) (a0 : Act) (w0 : World) : Nat → List Sp → Prop
  | _, [] => True
  | i, s :: ss => Agree kinds a0 w0 i s ∧ AgreeFrom kinds a0 w0 (i + 1) ss
theorem AgreeFrom.get {kinds : List Kd} {a0 : Act} {w0 : World} : ∀ {l : List Sp} {k : Nat}, AgreeFrom kinds a0 w0 k l → ∀ i s, l[i]? = some s → Agree kinds a0 w0 (k + i) s
  | [], _, _, i, s, h => by simp at h
  | x :: l, k, h, 0, s, e => by obtain rfl : x = s := by simpa using e
                                exact h.1
  | x :: l, k, h, i + 1, s, e => by
    have := h.2.get i s (by simpa using e)
    rwa [show k + 1 + i = k + (i + 1) by omega] at this

def depsB (ops : Array Oper) (specs : List Sp) : Bool :=
  (List.range specs.length).all fun i => match ops[i]?, specs[i]? with
    | some o, some s => o.guard.isNone && s.deps.all fun j => decide (j < specs.length) && o.after.any fun e => Region.binds .any e && e.on == j
    | _, _ => false
def slotsB (b : Nat) (specs : List Sp) : Bool := specs.all fun s => match s with | .ld x => !((List.range specs.length).map (· + b)).contains x | _ => true

theorem wp_region_made {id : Nat} {ops : Array Oper} {Q : Exit → Act → World → Prop} {a0 : Act} {w0 : World} (b : Nat) (specs : List Sp) (kinds : List Kd)
    (hm : Tryd.prog.follows .mixedOrders = true) (hB : shapeB ops ((List.range specs.length).map (· + b)) = true) (hop : (ops.toList.take specs.length).map (·.op) = specs.map (Sp.op b)) (hd : depsB ops specs = true) (hs : slotsB b specs = true)
    (hlt : ((List.range specs.length).map (· + b)).all (fun d => decide (d < a0.tmps.size)) = true) (hag : AgreeFrom kinds a0 w0 0 specs) {k : Nat} (hk : specs.length + k = ops.size)
    (htail : ∀ vals w, Below w0.heap.size w0 w → (∀ i kd, kinds[i]? = some kd → i < specs.length → kd.At w (vals (i + b))) → wpAny Tryd.prog .any ops Q k (firstB specs.length ops.size) (putAll a0 ((List.range specs.length).map (· + b)) vals) w) :
    (Code.region id ops true).wp Tryd.prog Q a0 w0 := by
  have hdd : ∀ i, i < specs.length → ∃ o s, ops[i]? = some o ∧ specs[i]? = some s ∧ o.guard = none ∧ ∀ j ∈ s.deps, j < specs.length ∧ ∃ e ∈ o.after, Region.binds .any e = true ∧ e.on = j := by
    intro i hi
    have := List.all_eq_true.1 hd i (by simpa using hi)
    cases ho : ops[i]? with
    | none => rw [ho] at this; cases this
    | some o =>
      cases hs : specs[i]? with
      | none => rw [ho, hs] at this; cases this
      | some s =>
        rw [ho, hs] at this
        simp only [Bool.and_eq_true, List.all_eq_true, decide_eq_true_eq, Option.isNone_iff_eq_none] at this
        refine ⟨o, s, rfl, rfl, this.1, fun j hj => ?_⟩
        obtain ⟨h1, h2⟩ := this.2 j hj
        obtain ⟨e, he, hb⟩ := Array.any_eq_true'.1 h2
        simp only [Bool.and_eq_true, beq_iff_eq] at hb
        exact ⟨h1, e, he, hb.1, hb.2⟩
  have hlen : ((List.range specs.length).map (· + b)).length = specs.length := by simp
  refine wp_region_freely (V := kdV kinds) (k := k) hm (fun i w w' v h hb kd hk => (h kd hk).next hb) hB hlt (made_due rfl (fun i o hi ho => ?_) (fun i s h => by have := hag.get i s h; rwa [Nat.zero_add] at this) (fun i s h j hj => ?_) (fun x hx => ?_)) (by rw [hlen]; exact hk) (fun vals w hb hv => ?_)
  · obtain ⟨o', s, h1, h2, h3, h4⟩ := hdd i hi
    obtain rfl := Option.some.inj (ho.symm.trans h1)
    refine ⟨s, h2, ?_, h3, fun j hj => (h4 j hj).2⟩
    have e1 : ((ops.toList.take specs.length).map (·.op))[i]? = some o.op := by
      rw [List.getElem?_map, List.getElem?_take_of_lt hi, Array.getElem?_toList, ho]
      rfl
    rw [hop, List.getElem?_map, h2] at e1
    exact (Option.some.inj e1).symm
  · obtain ⟨o', s', h1, h2, h3, h4⟩ := hdd i (List.getElem?_eq_some_iff.1 h).1
    obtain rfl := Option.some.inj (h.symm.trans h2)
    exact (h4 j hj).1
  · have := List.all_eq_true.1 hs _ hx
    simpa using this
  · rw [hlen]
    refine htail vals w hb fun i kd hk hi => hv i (i + b) (by simp [hi]) kd hk


theorem putAll_eval {ds : List Nat} {vals : Nat → Value} {a : Act} {s : Nat} (h : (ds.contains s && decide (s < a.tmps.size)) = true) : (putAll a ds vals).eval (.tmp s) = vals s := by
  simp only [Bool.and_eq_true, decide_eq_true_eq, List.contains_iff_mem] at h
  have := (putAll_get vals ds a s).2.2
  rw [if_pos h] at this
  simp only [Act.eval, Array.getD_eq_getD_getElem?, this, Option.getD_some]

/-- The region's last operation, an assignment. -/
theorem wpAny_assign {ops : Array Oper} {Q : Exit → Act → World → Prop} {listed : Array Bool} {a : Act} {w : World} {o : Oper} {x : Operand} {d : Option Tmp} (i : Nat) (hr : Region.ready .any ops listed = [i]) (ho : ops[i]? = some o) (hop : o.op = .assign x) (hg : o.guard = none) (hdst : o.dst = d)
    (hdone : Region.ready .any ops (listed.setIfInBounds i true) = []) {v : Value} (hv : a.eval x = v) (h : Q .normal (a.put d v) w) : wpAny Tryd.prog .any ops Q 1 listed a w := by
  subst hdst hv
  refine ⟨fun h0 => (by rw [hr] at h0; cases h0), fun j hj => ?_⟩
  rw [hr] at hj
  obtain rfl : j = i := by simpa using hj
  refine wpOp_mono (fun a' w' h => ⟨hdone, h⟩) (wpOp_of_list ho (Q := Q) (wpList_plain hg fun K hK => ?_))
  unfold Oper.wp execOp
  simp only [hop, Sem.run_pure, Oper.upon_value]
  exact hK _ _ h


def algSpecs : List Sp :=
  [.ld 4, .ld 5, .lst [0, 1], .alt 2, .ld 5, .ld 4, .lst [4, 5], .alt 6, .pr 3 7, .ld 4, .ld 5, .lst [9, 10], .seq 11, .ld 4, .lst [12, 13], .seq 14, .ld 4, .ld 5, .ld 4, .lst [17, 18], .seq 19, .lst [16, 20], .seq 21, .pr 15 22, .ld 4, .seq0, .lst [24, 25], .seq 26, .ld 4, .pr 27 28, .ld 4, .alt0, .lst [30, 31], .alt 32, .ld 4, .pr 33 34, .ld 9, .rep 36 0 (-1), .ld 9, .pr 37 38, .ld 4, .rep 40 0 1, .seq0, .ld 4, .lst [42, 43], .alt 44, .pr 41 45, .ld 4, .ld 5, .lst [47, 48], .alt 49, .ld 4, .lst [50, 51], .seq 52, .ld 4, .ld 4, .lst [54, 55], .seq 56, .ld 5, .ld 4, .lst [58, 59], .seq 60, .lst [57, 61], .alt 62, .pr 53 63, .al [8, 23, 29, 35, 39, 46, 64]]
def algKinds (a b : T) : List Kd :=
  [.kt a, .kt b, .kl [a, b], .kt (talt [a, b]), .kt b, .kt a, .kl [b, a], .kt (talt [b, a]), .kp (talt [a, b]) (talt [b, a]), .kt a, .kt b, .kl [a, b], .kt (tseq [a, b]), .kt a, .kl [(tseq [a, b]), a], .kt (tseq [(tseq [a, b]), a]), .kt a, .kt b, .kt a, .kl [b, a], .kt (tseq [b, a]), .kl [a, (tseq [b, a])], .kt (tseq [a, (tseq [b, a])]), .kp (tseq [(tseq [a, b]), a]) (tseq [a, (tseq [b, a])]), .kt a, .kt tnil, .kl [a, tnil], .kt (tseq [a, tnil]), .kt a, .kp (tseq [a, tnil]) a, .kt a, .kt tnone, .kl [a, tnone], .kt (talt [a, tnone]), .kt a, .kp (talt [a, tnone]) a, .kt (trep a 0 (-1)), .kt (trep (trep a 0 (-1)) 0 (-1)), .kt (trep a 0 (-1)), .kp (trep (trep a 0 (-1)) 0 (-1)) (trep a 0 (-1)), .kt a, .kt (trep a 0 1), .kt tnil, .kt a, .kl [tnil, a], .kt (talt [tnil, a]), .kp (trep a 0 1) (talt [tnil, a]), .kt a, .kt b, .kl [a, b], .kt (talt [a, b]), .kt a, .kl [(talt [a, b]), a], .kt (tseq [(talt [a, b]), a]), .kt a, .kt a, .kl [a, a], .kt (tseq [a, a]), .kt b, .kt a, .kl [b, a], .kt (tseq [b, a]), .kl [(tseq [a, a]), (tseq [b, a])], .kt (talt [(tseq [a, a]), (tseq [b, a])]), .kp (tseq [(talt [a, b]), a]) (talt [(tseq [a, a]), (tseq [b, a])]), .kall (pairs a b)]

theorem algSpecs_len : algSpecs.length = 66 := rfl
theorem alg_slots : (List.range algSpecs.length).map (· + 57) = [57, 58, 59, 60, 61, 62, 63, 64, 65, 66, 67, 68, 69, 70, 71, 72, 73, 74, 75, 76, 77, 78, 79, 80, 81, 82, 83, 84, 85, 86, 87, 88, 89, 90, 91, 92, 93, 94, 95, 96, 97, 98, 99, 100, 101, 102, 103, 104, 105, 106, 107, 108, 109, 110, 111, 112, 113, 114, 115, 116, 117, 118, 119, 120, 121, 122] := rfl
set_option maxRecDepth 100000 in
set_option maxHeartbeats 4000000 in
theorem alg_agree {a b : T} {a0 : Act} {w0 : World} (hA : Box a0 w0 4 a) (hB : Box a0 w0 5 b) (hS : Box a0 w0 9 (trep a 0 (-1))) (na : a.nodes ≤ 2500) (nb : b.nodes ≤ 2500) : AgreeFrom (algKinds a b) a0 w0 0 algSpecs :=
  ⟨⟨a, rfl, hA⟩,
   ⟨b, rfl, hB⟩,
   ⟨[a, b], rfl, by simp, by simp, rfl, rfl, trivial⟩,
   ⟨[a, b], rfl, rfl, by (try simp only [T.nodes, TL.nodes, tseq, talt, trep, tnil, tnone]); omega⟩,
   ⟨b, rfl, hB⟩,
   ⟨a, rfl, hA⟩,
   ⟨[b, a], rfl, by simp, by simp, rfl, rfl, trivial⟩,
   ⟨[b, a], rfl, rfl, by (try simp only [T.nodes, TL.nodes, tseq, talt, trep, tnil, tnone]); omega⟩,
   ⟨(talt [a, b]), (talt [b, a]), rfl, rfl, rfl⟩,
   ⟨a, rfl, hA⟩,
   ⟨b, rfl, hB⟩,
   ⟨[a, b], rfl, by simp, by simp, rfl, rfl, trivial⟩,
   ⟨[a, b], rfl, rfl, by (try simp only [T.nodes, TL.nodes, tseq, talt, trep, tnil, tnone]); omega⟩,
   ⟨a, rfl, hA⟩,
   ⟨[(tseq [a, b]), a], rfl, by simp, by simp, rfl, rfl, trivial⟩,
   ⟨[(tseq [a, b]), a], rfl, rfl, by (try simp only [T.nodes, TL.nodes, tseq, talt, trep, tnil, tnone]); omega⟩,
   ⟨a, rfl, hA⟩,
   ⟨b, rfl, hB⟩,
   ⟨a, rfl, hA⟩,
   ⟨[b, a], rfl, by simp, by simp, rfl, rfl, trivial⟩,
   ⟨[b, a], rfl, rfl, by (try simp only [T.nodes, TL.nodes, tseq, talt, trep, tnil, tnone]); omega⟩,
   ⟨[a, (tseq [b, a])], rfl, by simp, by simp, rfl, rfl, trivial⟩,
   ⟨[a, (tseq [b, a])], rfl, rfl, by (try simp only [T.nodes, TL.nodes, tseq, talt, trep, tnil, tnone]); omega⟩,
   ⟨(tseq [(tseq [a, b]), a]), (tseq [a, (tseq [b, a])]), rfl, rfl, rfl⟩,
   ⟨a, rfl, hA⟩,
   rfl,
   ⟨[a, tnil], rfl, by simp, by simp, rfl, rfl, trivial⟩,
   ⟨[a, tnil], rfl, rfl, by (try simp only [T.nodes, TL.nodes, tseq, talt, trep, tnil, tnone]); omega⟩,
   ⟨a, rfl, hA⟩,
   ⟨(tseq [a, tnil]), a, rfl, rfl, rfl⟩,
   ⟨a, rfl, hA⟩,
   rfl,
   ⟨[a, tnone], rfl, by simp, by simp, rfl, rfl, trivial⟩,
   ⟨[a, tnone], rfl, rfl, by (try simp only [T.nodes, TL.nodes, tseq, talt, trep, tnil, tnone]); omega⟩,
   ⟨a, rfl, hA⟩,
   ⟨(talt [a, tnone]), a, rfl, rfl, rfl⟩,
   ⟨(trep a 0 (-1)), rfl, hS⟩,
   ⟨(trep a 0 (-1)), rfl, rfl, by (try simp only [T.nodes, TL.nodes, tseq, talt, trep, tnil, tnone]); omega⟩,
   ⟨(trep a 0 (-1)), rfl, hS⟩,
   ⟨(trep (trep a 0 (-1)) 0 (-1)), (trep a 0 (-1)), rfl, rfl, rfl⟩,
   ⟨a, rfl, hA⟩,
   ⟨a, rfl, rfl, by (try simp only [T.nodes, TL.nodes, tseq, talt, trep, tnil, tnone]); omega⟩,
   rfl,
   ⟨a, rfl, hA⟩,
   ⟨[tnil, a], rfl, by simp, by simp, rfl, rfl, trivial⟩,
   ⟨[tnil, a], rfl, rfl, by (try simp only [T.nodes, TL.nodes, tseq, talt, trep, tnil, tnone]); omega⟩,
   ⟨(trep a 0 1), (talt [tnil, a]), rfl, rfl, rfl⟩,
   ⟨a, rfl, hA⟩,
   ⟨b, rfl, hB⟩,
   ⟨[a, b], rfl, by simp, by simp, rfl, rfl, trivial⟩,
   ⟨[a, b], rfl, rfl, by (try simp only [T.nodes, TL.nodes, tseq, talt, trep, tnil, tnone]); omega⟩,
   ⟨a, rfl, hA⟩,
   ⟨[(talt [a, b]), a], rfl, by simp, by simp, rfl, rfl, trivial⟩,
   ⟨[(talt [a, b]), a], rfl, rfl, by (try simp only [T.nodes, TL.nodes, tseq, talt, trep, tnil, tnone]); omega⟩,
   ⟨a, rfl, hA⟩,
   ⟨a, rfl, hA⟩,
   ⟨[a, a], rfl, by simp, by simp, rfl, rfl, trivial⟩,
   ⟨[a, a], rfl, rfl, by (try simp only [T.nodes, TL.nodes, tseq, talt, trep, tnil, tnone]); omega⟩,
   ⟨b, rfl, hB⟩,
   ⟨a, rfl, hA⟩,
   ⟨[b, a], rfl, by simp, by simp, rfl, rfl, trivial⟩,
   ⟨[b, a], rfl, rfl, by (try simp only [T.nodes, TL.nodes, tseq, talt, trep, tnil, tnone]); omega⟩,
   ⟨[(tseq [a, a]), (tseq [b, a])], rfl, by simp, by simp, rfl, rfl, trivial⟩,
   ⟨[(tseq [a, a]), (tseq [b, a])], rfl, rfl, by (try simp only [T.nodes, TL.nodes, tseq, talt, trep, tnil, tnone]); omega⟩,
   ⟨(tseq [(talt [a, b]), a]), (talt [(tseq [a, a]), (tseq [b, a])]), rfl, rfl, rfl⟩,
   ⟨pairs a b, rfl, by simp [pairs], by simp [pairs], rfl, rfl, rfl, rfl, rfl, rfl, rfl, trivial⟩, trivial⟩

theorem chunk_at {w : World} {g : Nat} {t : TypeId} : ∀ {L : List (List Value)} {m : Nat} {d : List Value}, Blk w g t L.flatten.toArray → (∀ e ∈ L, e.length = 10) → L[m]? = some d → CellsAt w ⟨g, m * 10, none⟩ d := by
  have key : ∀ (L : List (List Value)) (m : Nat) (d : List Value), (∀ e ∈ L, e.length = 10) → L[m]? = some d → ∀ j u, d[j]? = some u → L.flatten[m * 10 + j]? = some u := by
    intro L
    induction L with
    | nil => intro m d _ h; simp at h
    | cons e L ih =>
      intro m d h10 hm j u hu
      have he := h10 e (by simp)
      cases m with
      | zero =>
        obtain rfl : e = d := by simpa using hm
        rw [List.flatten_cons, List.getElem?_append_left (by have := (List.getElem?_eq_some_iff.1 hu).1; omega)]
        simpa using hu
      | succ m =>
        rw [List.flatten_cons, List.getElem?_append_right (by omega), he]
        have := ih m d (fun x hx => h10 x (by simp [hx])) (by simpa using hm) j u hu
        rwa [show (m + 1) * 10 + j - 10 = m * 10 + j by omega]
  intro L m d hb h10 hm j u hu
  rw [Addr.add_lit, hb.cell, List.getElem?_toArray]
  exact key L m d h10 hm j u hu

/-- What the long statement leaves: the pairs in a list. -/
def AlgRel (a b : T) (w : World) (gv : Nat) (cv : Array Value) (v : Value) (wx : World) : Prop :=
  ∃ g, v = .slice (some ⟨g, 0, none⟩) 7 7 ∧ PairsIn wx g (pairs a b) ∧ Below w.heap.size w wx ∧ Blk wx gv 29 cv
theorem AlgRel.mk {a b : T} {w : World} {gv : Nat} {cv : Array Value} {L : List (List Value)} (_ : ∀ e ∈ L, e.length = 10) (wn : World) (h1 : Below w.heap.size w wn) (h2 : Blk wn gv 29 cv)
    (h : PairsIn (wn.alloc (.cells L.flatten.toArray 50)) wn.heap.size (pairs a b)) : AlgRel a b w gv cv (.slice (some ⟨wn.heap.size, 0, none⟩) 7 7) (wn.alloc (.cells L.flatten.toArray 50)) :=
  ⟨_, rfl, h, h1.alloc h1.size _, h2.alloc _⟩

set_option maxRecDepth 100000 in
set_option maxHeartbeats 8000000 in
theorem algebra_true (ta : T) (A : Option Addr) (c : Nat) (tb : T) (B : Option Addr) (d : Nat) (s : ByteArray) (cf ef p : Int) (w : World) (a : Nat → Addr) (hwa : ta.wf) (hia : T.In w (· < w.heap.size) ta A) (hwb : tb.wf) (hib : T.In w (· < w.heap.size) tb B)
    (hs : s.size ≤ 140737488355328) (hcf : IsI64 cf) (hef : IsI64 ef) (hp : IsI64 p) (hE : Env w a) :
    Calls Tryd.prog 5 #[.agg (ta.hd.cells (.slice A ta.subs.length c)).toArray, .agg (tb.hd.cells (.slice B tb.subs.length d)).toArray, .agg [.string s, .int .i64 cf, .int .i64 ef].toArray, .int .i64 p] w fun e w' => e = .returned (.bool true) ∧ Below w.heap.size w w' := by
  have hne := fun y ad => run_neq_iface_nil (P := Tryd.prog) (w := y) 33 (by kernel_rfl) 83 (.pointer (some ad))
  have hnn := fun y => run_neq_nil_nil_at (P := Tryd.prog) (w := y) 33 (by kernel_rfl)
  have HLa := hide (fun y hi => long_any ta A c s cf ef y hwa hi)
  have HLb := hide (fun y hi => long_any tb B d s cf ef y hwb hi)
  have HCa := hide (fun y hN hi he => check_any ta A c y a hN hi he)
  have HCb := hide (fun y hN hi he => check_any tb B d y a hN hi he)
  have HE := hide (fun x (hx : Below w.heap.size w x) => hE.below hx)
  have HPS := hide (fun x q hq i j => pairs_same ta tb x q hq i j)
  have HPF := hide (fun na nb q hq => pairs_fit ta tb hwa hwb na nb q hq)
  have HLv := hide (fun y (hy : Below w.heap.size w y) => lives11_true y a (hE.below hy))
  have HTA := hide hia
  have HTB := hide hib
  clear hia hib hE hwa hwb
  obtain ⟨⟨ak, a0, a1, a2, a3, an, ai, ax, ab⟩, la⟩ := ta
  obtain ⟨⟨bk, b0, b1, b2, b3, bn, bi, bx, bb⟩, lb⟩ := tb
  simp only [T.hd, T.subs, Hd.cells] at HLa HLb HCa HCb ⊢
  obtain ⟨p1, p2⟩ := hp
  generalize hcka : ((T.mk ⟨ak, a0, a1, a2, a3, an, ai, ax, ab⟩ la)).check = cka at *
  generalize hckb : ((T.mk ⟨bk, b0, b1, b2, b3, bn, bi, bx, bb⟩ lb)).check = ckb at *
  clear hcka hckb
  go_enter Tryd.func5, Tryd.ntmps5
  go_wp2_with fail
  have hbel := (((Below.refl w.heap.size w).alloc (Nat.le_refl _) (.cells #[.int .i64 ak, .int .u64 a0, .int .u64 a1, .int .u64 a2, .int .u64 a3, .slice A la.length c, .int .i64 an, .int .i64 ai, .int .i64 ax, .bool ab] 27)).alloc (by simp) (.cells #[.int .i64 bk, .int .u64 b0, .int .u64 b1, .int .u64 b2, .int .u64 b3, .slice B lb.length d, .int .i64 bn, .int .i64 bi, .int .i64 bx, .bool bb] 27)).alloc (by simp; omega) (.cells #[.string s, .int .i64 cf, .int .i64 ef] 29)
  have hba := ((Blk.new w 27 #[.int .i64 ak, .int .u64 a0, .int .u64 a1, .int .u64 a2, .int .u64 a3, .slice A la.length c, .int .i64 an, .int .i64 ai, .int .i64 ax, .bool ab]).alloc (.cells #[.int .i64 bk, .int .u64 b0, .int .u64 b1, .int .u64 b2, .int .u64 b3, .slice B lb.length d, .int .i64 bn, .int .i64 bi, .int .i64 bx, .bool bb] 27)).alloc (.cells #[.string s, .int .i64 cf, .int .i64 ef] 29)
  have hbb := (Blk.new (w.alloc (.cells #[.int .i64 ak, .int .u64 a0, .int .u64 a1, .int .u64 a2, .int .u64 a3, .slice A la.length c, .int .i64 an, .int .i64 ai, .int .i64 ax, .bool ab] 27)) 27 #[.int .i64 bk, .int .u64 b0, .int .u64 b1, .int .u64 b2, .int .u64 b3, .slice B lb.length d, .int .i64 bn, .int .i64 bi, .int .i64 bx, .bool bb]).alloc (.cells #[.string s, .int .i64 cf, .int .i64 ef] 29)
  have hbv := Blk.new ((w.alloc (.cells #[.int .i64 ak, .int .u64 a0, .int .u64 a1, .int .u64 a2, .int .u64 a3, .slice A la.length c, .int .i64 an, .int .i64 ai, .int .i64 ax, .bool ab] 27)).alloc (.cells #[.int .i64 bk, .int .u64 b0, .int .u64 b1, .int .u64 b2, .int .u64 b3, .slice B lb.length d, .int .i64 bn, .int .i64 bi, .int .i64 bx, .bool bb] 27)) 29 #[.string s, .int .i64 cf, .int .i64 ef]
  simp only [World.size_alloc] at hbb hbv
  refine (HLv.out _ hbel).mono ?_
  rintro e v1 ⟨rfl, hb⟩
  have HBA := hide (hba.next hb)
  have HBB := hide (hbb.next hb)
  have HBV := hide (hbv.next hb)
  have HBL := hide (hbel.trans (hb.mono hbel.size))
  replace HTA := hide ((HTA.out.next hbel).next hb)
  replace HTB := hide ((HTB.out.next hbel).next hb)
  clear hb hbel hba hbb hbv HLv
  have ca := HBA.out.cell
  have cv := HBV.out.cell
  go_wp2_with fail
  refine (HLa.out _ HTA.out).mono ?_
  rintro e v2 ⟨lg, rfl, hna, hb⟩
  replace HBA := hide (HBA.out.next hb)
  replace HBB := hide (HBB.out.next hb)
  replace HBV := hide (HBV.out.next hb)
  replace HBL := hide (HBL.out.trans (hb.mono HBL.out.size))
  replace HTA := hide (HTA.out.next hb)
  replace HTB := hide (HTB.out.next hb)
  clear hb ca cv HLa
  cases lg with
  | true =>
    clear hna
    have cv := HBV.out.cell
    go_wp2_with fail
    go_ret
    exact ⟨rfl, HBL.out⟩
  | false =>
  have hna' := hna (by first | rfl | trivial)
  clear hna
  have cb := HBB.out.cell
  have cv := HBV.out.cell
  go_wp2_with fail
  refine (HLb.out _ HTB.out).mono ?_
  rintro e v3 ⟨lg, rfl, hnb, hb⟩
  replace HBA := hide (HBA.out.next hb)
  replace HBB := hide (HBB.out.next hb)
  replace HBV := hide (HBV.out.next hb)
  replace HBL := hide (HBL.out.trans (hb.mono HBL.out.size))
  replace HTA := hide (HTA.out.next hb)
  replace HTB := hide (HTB.out.next hb)
  clear hb cb cv HLb
  cases lg with
  | true =>
    clear hnb
    go_wp2_with fail
    go_ret
    exact ⟨rfl, HBL.out⟩
  | false =>
  have hnb' := hnb (by first | rfl | trivial)
  clear hnb
  have HNN := hide (And.intro hna' hnb')
  have ca := HBA.out.cell
  go_wp2_with fail
  refine (HCa.out _ (by omega) HTA.out ((HE.out _ HBL.out).sent.mono (by decide))).mono ?_
  rintro e v4 ⟨rfl, hb⟩
  replace HBA := hide (HBA.out.next hb)
  replace HBB := hide (HBB.out.next hb)
  replace HBV := hide (HBV.out.next hb)
  replace HBL := hide (HBL.out.trans (hb.mono HBL.out.size))
  replace HTA := hide (HTA.out.next hb)
  replace HTB := hide (HTB.out.next hb)
  clear hb ca HCa
  cases cka with
  | some g =>
    simp only [errOf, errV]
    go_wp2_with fail
    go_ret
    exact ⟨rfl, HBL.out⟩
  | none =>
  simp only [errOf]
  have cb := HBB.out.cell
  go_wp2_with fail
  refine (HCb.out _ (by omega) HTB.out ((HE.out _ HBL.out).sent.mono (by decide))).mono ?_
  rintro e v5 ⟨rfl, hb⟩
  replace HBA := hide (HBA.out.next hb)
  replace HBB := hide (HBB.out.next hb)
  replace HBV := hide (HBV.out.next hb)
  replace HBL := hide (HBL.out.trans (hb.mono HBL.out.size))
  replace HTA := hide (HTA.out.next hb)
  replace HTB := hide (HTB.out.next hb)
  clear hb cb HCb
  cases ckb with
  | some g =>
    simp only [errOf, errV]
    go_wp2_with fail
    go_ret
    exact ⟨rfl, HBL.out⟩
  | none =>
  simp only [errOf]
  have cv := HBV.out.cell
  by_cases h40 : (40 : Int) < s.size
  · have e40 : decide ((40 : Int) < (s.size : Int)) = true := decide_eq_true h40
    go_wp2_with fail
    go_ret
    exact ⟨rfl, HBL.out⟩
  have e40 : decide ((40 : Int) < (s.size : Int)) = false := decide_eq_false h40
  by_cases hp0 : p < 0
  · have e0 : decide (p < 0) = true := decide_eq_true hp0
    go_wp2_with fail
    go_ret
    exact ⟨rfl, HBL.out⟩
  have e0 : decide (p < 0) = false := decide_eq_false hp0
  by_cases hps : (s.size : Int) < p
  · have e1 : decide ((s.size : Int) < p) = true := decide_eq_true hps
    go_wp2_with fail
    go_ret
    exact ⟨rfl, HBL.out⟩
  have e1 : decide ((s.size : Int) < p) = false := decide_eq_false hps
  have hna : 1 + TL.nodes la ≤ 2500 := by simpa [T.nodes] using hna'
  have hnb : 1 + TL.nodes lb ≤ 2500 := by simpa [T.nodes] using hnb'
  clear hna' hnb'
  have HC := hide (rep_any (T.mk ⟨ak, a0, a1, a2, a3, an, ai, ax, ab⟩ la) A c 0 (-1) v5 (by simp only [T.nodes, TL.nodes]; omega) HTA.out)
  simp only [T.hd, T.subs, Hd.cells, List.length_cons, List.length_nil, Nat.zero_add, Nat.reduceAdd, List.cons_append, List.nil_append] at HC
  have ca := HBA.out.cell
  have cb := HBB.out.cell
  have z0 := HBA.out.lt
  have z1 := HBB.out.lt
  have z2 := HBV.out.lt
  go_wp2_with fail
  refine HC.out.mono ?_
  rintro e w1 ⟨B1, c1, bs1, rfl, hown, _, hfr, hb⟩
  replace HTA := hide (HTA.out.next hb)
  replace HTB := hide (HTB.out.next hb)
  replace HBA := hide (HBA.out.next hb)
  replace HBB := hide (HBB.out.next hb)
  replace HBV := hide (HBV.out.next hb)
  replace HBL := hide (HBL.out.trans (hb.mono HBL.out.size))
  have HT1 := hide (hown.in_ (ok := (· < w1.heap.size)) fun b hb => (hfr b hb).2)
  clear hown hfr hb HC ca cb cv e40 e0 e1 z0 z1 z2
  simp only [T.hd, T.subs, Hd.cells, List.length_cons, List.length_nil, Nat.zero_add, Nat.reduceAdd, List.cons_append, List.nil_append]
  have hbx := (Below.refl w1.heap.size w1).alloc (Nat.le_refl _) (.cells #[.int .i64 8, .int .u64 0, .int .u64 0, .int .u64 0, .int .u64 0, .slice B1 1 c1, .int .i64 0, .int .i64 0, .int .i64 (-1), .bool false] 27)
  have HBS := hide (Blk.new w1 27 #[.int .i64 8, .int .u64 0, .int .u64 0, .int .u64 0, .int .u64 0, .slice B1 1 c1, .int .i64 0, .int .i64 0, .int .i64 (-1), .bool false])
  replace HTA := hide (HTA.out.next hbx)
  replace HTB := hide (HTB.out.next hbx)
  replace HT1 := hide (HT1.out.next hbx)
  have ca := HBA.out.cell
  have cb := HBB.out.cell
  have z0 := HBA.out.lt
  have z1 := HBB.out.lt
  have z2 := HBV.out.lt
  replace HBA := hide (HBA.out.next hbx)
  replace HBB := hide (HBB.out.next hbx)
  replace HBV := hide (HBV.out.next hbx)
  replace HBL := hide (HBL.out.trans (hbx.mono HBL.out.size))
  clear hbx
  go_upto_region 6 with fail
  clear ca cb z0 z1 z2
  generalize w1.alloc (.cells #[.int .i64 8, .int .u64 0, .int .u64 0, .int .u64 0, .int .u64 0, .slice B1 1 c1, .int .i64 0, .int .i64 0, .int .i64 (-1), .bool false] 27) = W1 at *
  go_cut [10] (fun v wx => AlgRel (T.mk ⟨ak, a0, a1, a2, a3, an, ai, ax, ab⟩ la) (T.mk ⟨bk, b0, b1, b2, b3, bn, bi, bx, bb⟩ lb) w (w.heap.size + 1 + 1) #[.string s, .int .i64 cf, .int .i64 ef] v wx)
  case first =>
    clear HE HPS HPF
    refine wp_region_made 57 algSpecs (algKinds (T.mk ⟨ak, a0, a1, a2, a3, an, ai, ax, ab⟩ la) (T.mk ⟨bk, b0, b1, b2, b3, bn, bi, bx, bb⟩ lb)) rfl (by kernel_rfl) (by kernel_rfl) (by kernel_rfl) (by kernel_rfl) (by kernel_rfl) (alg_agree ?bA ?bB ?bS (by simp only [T.nodes]; omega) (by simp only [T.nodes]; omega)) (k := 1) rfl ?_
    case bA => exact ⟨_, A, c, rfl, HBA.out, HTA.out⟩
    case bB => exact ⟨_, B, d, rfl, HBB.out, HTB.out⟩
    case bS => exact ⟨_, B1, c1, rfl, HBS.out, HT1.out⟩
    intro vals wn hbn hval
    have hlast := hval 65 _ rfl (by decide)
    clear hval
    obtain ⟨gp, hgp, hpp⟩ := hlast
    replace hgp := hide hgp
    refine wpAny_assign (x := .tmp 122) (d := some 10) 66 (by kernel_rfl) rfl rfl rfl rfl (by kernel_rfl) (putAll_eval (by kernel_rfl)) ?_
    rw [alg_slots]
    simp only [putAll, List.foldl_cons, List.foldl_nil, Act.put, List.setIfInBounds_toArray, List.set_cons_zero, List.set_cons_succ]
    go_wp2_with fail
    go_meet
    case rel => exact ⟨gp, hgp.out, hpp, HBL.out.trans (hbn.mono HBL.out.size), HBV.out.next hbn⟩
  case rest =>
    obtain ⟨gp, rfl, hpp, hbl, hbv⟩ := hcut
    have HPP := hide hpp
    have HL := hide hbl
    clear HBL HBV HBA HBB HTA HTB HT1 HBS hpp hbl
    have cv := hbv.cell
    go_wp2_with fail
    clear hbv cv
    refine (new_any s cf ef wc hs).mono ?_
    rintro e v6 ⟨sb, sm, x, rfl, hsc, htx, _, _, _, hb⟩
    replace HPP := hide (HPP.out.next hb)
    replace HL := hide (HL.out.trans (hb.mono HL.out.size))
    have HSC := hide (And.intro hsc htx)
    have HPF2 := hide (fun q hq => HPF.out (by simpa [T.nodes] using hna) (by simpa [T.nodes] using hnb) q hq)
    clear hsc htx hb HPF
    have hlen : (pairs (T.mk ⟨ak, a0, a1, a2, a3, an, ai, ax, ab⟩ la) (T.mk ⟨bk, b0, b1, b2, b3, bn, bi, bx, bb⟩ lb)).length = 7 := rfl
    generalize pairs (T.mk ⟨ak, a0, a1, a2, a3, an, ai, ax, ab⟩ la) (T.mk ⟨bk, b0, b1, b2, b3, bn, bi, bx, bb⟩ lb) = PL at *
    replace hlen := hide hlen
    go_wp2_with fail
    go_loopw [132] (fun kv wr => ∃ n : Nat, kv = .int .i64 n ∧ n ≤ 7 ∧ Below w.heap.size w wr ∧ PairsIn wr gp PL ∧ Scn wr sb sm x) (fun kv _ => 7 - (intOf kv).toNat)
    case atStart => exact ⟨0, rfl, by omega, HL.out, HPP.out, HSC.out.1⟩
    case round =>
      obtain ⟨n, rfl, hn, hbel, hpp, hsc⟩ := hrel
      clear HL HPP
      by_cases hn7 : n < 7
      case neg =>
        obtain rfl : n = 7 := by omega
        have HF := hide hbel
        clear hbel hpp hsc
        go_wp2_with fail
        go_ret
        exact ⟨rfl, HF.out⟩
      have e7 : decide ((n : Int) < 7) = true := decide_eq_true (by omega)
      have hnl : n < PL.length := by rw [hlen.out]; exact hn7
      have hq := List.getElem?_eq_getElem hnl
      obtain ⟨B1, c1, C1, d1, k1, k2, i1, i2⟩ := hpp.2 n _ hq
      have hmem := List.getElem_mem hnl
      generalize PL[n] = q at *
      clear hq hnl
      obtain ⟨t1, t2⟩ := q
      obtain ⟨w1f, w2f, n1, n2⟩ := HPF2.out _ hmem
      have hsame := HPS.out x _ hmem
      simp only at k1 k2 i1 i2 w1f w2f n1 n2 hsame
      have hce : CellsAt wr ⟨gp, n * 20, none⟩ (t1.hd.cells (.slice B1 t1.subs.length c1) ++ t2.hd.cells (.slice C1 t2.subs.length d1)) := by
        intro j u hu
        by_cases hj : j < 10
        · rw [List.getElem?_append_left (by simpa [Hd.cells_length] using hj)] at hu
          exact k1 j u hu
        · rw [List.getElem?_append_right (by simp [Hd.cells_length]; omega)] at hu
          have := k2 _ u hu
          simp only [Hd.cells_length, Addr.add_lit] at this ⊢
          rwa [show n * 20 + 10 + (j - 10) = n * 20 + j by omega] at this
      have hxl : x.len = s.size := congrArg ByteArray.size HSC.out.2
      have HC1 := hide (fun y hi he => check_any t1 B1 c1 y a n1 hi he)
      have HC2 := hide (fun y hi he => check_any t2 C1 d1 y a n2 hi he)
      have HE1 := hide (fun hck => ends_fine (x := x) (b := sb) (m := sm) t1 B1 c1 p a n1 w1f ⟨p1, p2⟩ (by omega) (by omega) (by omega) hck)
      have HE2 := hide (fun hck => ends_fine (x := x) (b := sb) (m := sm) t2 C1 d1 p a n2 w2f ⟨p1, p2⟩ (by omega) (by omega) (by omega) hck)
      have HR := hide (fun j => hsame p.toNat j)
      have H := hide (And.intro hbel (And.intro hpp (And.intro hsc (And.intro i1 i2))))
      have HCE := hide hce
      clear hsame hbel hpp hsc i1 i2 k1 k2 w1f w2f hce hmem hxl
      generalize t1.R x = R1 at *
      generalize t2.R x = R2 at *
      generalize t1.check = ck1 at *
      generalize t2.check = ck2 at *
      obtain ⟨⟨xk, x0, x1, x2, x3, xn, xi, xx, xb⟩, lx⟩ := t1
      obtain ⟨⟨yk, y0, y1, y2, y3, yn, yi, yx, yb⟩, ly⟩ := t2
      simp only [T.hd, T.subs, Hd.cells, List.cons_append, List.nil_append] at HC1 HC2 HE1 HE2 HCE
      have hz20 := hide (Blk.new wr 50 #[.int .i64 0, .int .u64 0, .int .u64 0, .int .u64 0, .int .u64 0, .slice none 0 0, .int .i64 0, .int .i64 0, .int .i64 0, .bool false, .int .i64 0, .int .u64 0, .int .u64 0, .int .u64 0, .int .u64 0, .slice none 0 0, .int .i64 0, .int .i64 0, .int .i64 0, .bool false])
      go_wp2_with (first
        | (refine wpList_load_cells rfl 50 _ rfl _ rfl [.int .i64 xk, .int .u64 x0, .int .u64 x1, .int .u64 x2, .int .u64 x3, .slice B1 lx.length c1, .int .i64 xn, .int .i64 xi, .int .i64 xx, .bool xb, .int .i64 yk, .int .u64 y0, .int .u64 y1, .int .u64 y2, .int .u64 y3, .slice C1 ly.length d1, .int .i64 yn, .int .i64 yi, .int .i64 yx, .bool yb] _ Tryd.underTwo rfl Tryd.sizeTwo (by have := HCE.out; simpa only [Nat.zero_add, Int.toNat_natCast, Addr.add_lit] using this) ?_)
        | (refine wpList_store_row rfl _ _ _ rfl wr.heap.size 0 _ _ _ rfl rfl hz20.out Tryd.sizeTwo (by simp) (by simp [Value.oneCell']) ?_))
      intro w2 hrow2 hg2 hz2
      have hrow := hrow2.out
      rw [splice_all (by rfl)] at hrow
      have hbW : Below wr.heap.size wr w2 := below_grown ((Below.refl wr.heap.size wr).alloc (Nat.le_refl _) _) hg2 (Nat.le_refl _) (fun g hg => by injection hg with hg; omega)
      obtain ⟨hbel, hpp, hsc, i1, i2⟩ := H.out
      replace H := hide (And.intro (hbel.trans (hbW.mono hbel.size)) (And.intro (hpp.next hbW) (And.intro (hsc.below hbW) (And.intro (i1.next hbW) (i2.next hbW)))))
      have HB := hide hrow
      clear hbel hpp hsc i1 i2 hbW hrow hrow2 hg2 hz2 hz20 HCE
      generalize wr.heap.size = gb at *
      have cb := HB.out.cell
      have zb := HB.out.lt
      go_wp2_with fail
      refine (HC1.out _ H.out.2.2.2.1 ((HE.out _ H.out.1).sent.mono (by decide))).mono ?_
      rintro e w3 ⟨rfl, hb⟩
      obtain ⟨hbel, hpp, hsc, i1, i2⟩ := H.out
      replace H := hide (And.intro (hbel.trans (hb.mono hbel.size)) (And.intro (hpp.next hb) (And.intro (hsc.below hb) (And.intro (i1.next hb) (i2.next hb)))))
      replace HB := hide (HB.out.next hb)
      clear hbel hpp hsc i1 i2 hb cb zb HC1
      cases ck1 with
      | some g =>
        simp only [errOf, errV]
        go_wp2_with fail
        go_roundw
        case rel => exact ⟨n + 1, by go_num, by omega, H.out.1, H.out.2.1, H.out.2.2.1⟩
        case measure => simp [intOf]; omega
      | none =>
      simp only [errOf]
      replace HE1 := hide (HE1.out rfl)
      have cb := HB.out.cell
      have zb := HB.out.lt
      go_wp2_with fail
      refine (HC2.out _ H.out.2.2.2.2 ((HE.out _ H.out.1).sent.mono (by decide))).mono ?_
      rintro e w4 ⟨rfl, hb⟩
      obtain ⟨hbel, hpp, hsc, i1, i2⟩ := H.out
      replace H := hide (And.intro (hbel.trans (hb.mono hbel.size)) (And.intro (hpp.next hb) (And.intro (hsc.below hb) (And.intro (i1.next hb) (i2.next hb)))))
      replace HB := hide (HB.out.next hb)
      clear hbel hpp hsc i1 i2 hb cb zb HC2
      cases ck2 with
      | some g =>
        simp only [errOf, errV]
        go_wp2_with fail
        go_roundw
        case rel => exact ⟨n + 1, by go_num, by omega, H.out.1, H.out.2.1, H.out.2.2.1⟩
        case measure => simp [intOf]; omega
      | none =>
      simp only [errOf]
      replace HE2 := hide (HE2.out rfl)
      have cb := HB.out.cell
      have zb := HB.out.lt
      go_wp2_with fail
      refine (HE1.out _ H.out.2.2.2.1 H.out.2.2.1 (HE.out _ H.out.1)).mono ?_
      rintro e w5 ⟨v1, r1, rfl, ho1, he1, hb⟩
      obtain ⟨hbel, hpp, hsc, i1, i2⟩ := H.out
      replace H := hide (And.intro (hbel.trans (hb.mono hbel.size)) (And.intro (hpp.next hb) (And.intro (hsc.below hb) (And.intro (i1.next hb) (i2.next hb)))))
      replace HB := hide (HB.out.next hb)
      have HO1 := hide ho1
      have HX1 := hide he1
      clear hbel hpp hsc i1 i2 hb cb zb HE1 ho1 he1
      have cb := HB.out.cell
      have zb := HB.out.lt
      go_wp2_with fail
      refine (HE2.out _ H.out.2.2.2.2 H.out.2.2.1 (HE.out _ H.out.1)).mono ?_
      rintro e w6 ⟨v2, r2, rfl, ho2, he2, hb⟩
      obtain ⟨hbel, hpp, hsc, i1, i2⟩ := H.out
      replace H := hide (And.intro (hbel.trans (hb.mono hbel.size)) (And.intro (hpp.next hb) (hsc.below hb)))
      have HSI := hide (sameInts_any w6 (HO1.out.below hb (Nat.le_refl _)) ho2)
      have hr : r1 = r2 := HX1.out.eq he2 (fun j => HR.out j)
      subst hr
      clear hbel hpp hsc i1 i2 hb cb zb HE2 ho2 he2 HO1 HX1 HB
      simp only [decide_true] at HSI
      go_wp2_with fail
      refine HSI.out.mono ?_
      rintro e w7 ⟨rfl, hb⟩
      obtain ⟨hbel, hpp, hsc⟩ := H.out
      replace H := hide (And.intro (hbel.trans (hb.mono hbel.size)) (And.intro (hpp.next hb) (hsc.below hb)))
      clear hbel hpp hsc hb HSI
      go_wp2_with fail
      go_roundw
      case rel => exact ⟨n + 1, by go_num, by omega, H.out.1, H.out.2.1, H.out.2.2⟩
      case measure => simp [intOf]; omega
end Go.Proofs.YtkghlebfmggidaaDoor
