/- errors.As at a target of type **api.Fault: of a sentinel (no), of a fault (that fault); after the guide's ToyasAs. -/
import Derived.Test.YtpkcklpjbeginaaDoorFaults
set_option linter.unusedSimpArgs false
set_option linter.unusedVariables false
namespace Go.Proofs.YtpkcklpjbeginaaDoor
open Go.RowKit Go.Extern.Stop Go.Stop Go.Extern

theorem Tryd.valueOf27 (t : Addr) (w : World) : (ReflectliteValue.unpack (.iface 58 (.pointer (some t)))).run Tryd.prog w
    = .ok (.agg #[.pointer (some ⟨23, 58, none⟩), .pointer (some ⟨w.heap.size, 0, none⟩), .int .u64 150]) (w.alloc (.cells #[.pointer (some t)] 58)) := by kernel_rfl
theorem Tryd.type27 (a : Addr) (w : World) : (ReflectliteValue.methodAny (ReflectliteValue.valueError "reflectlite.Value.Type" 0) (fun t _ _ _ => ReflectliteType.toType t) #[.agg #[.pointer (some ⟨23, 58, none⟩), .pointer (some a), .int .u64 150]]).run Tryd.prog w
    = .ok (.iface 88 (.agg #[.pointer (some ⟨23, 58, none⟩)])) w := by kernel_rfl
theorem Tryd.methodKind (h : Value) (w : World) : (Go.method 266 88 (.agg #[h]) "Kind").run Tryd.prog w = .ok (98, h) w := by kernel_rfl
theorem Tryd.kind27 (w : World) : ((ReflectliteType.abiMethod fun t => Functor.map (fun a : Nat => Value.int IntKind.u8 (a : Int)) (Rtype.kind t)) #[.pointer (some ⟨23, 58, none⟩)]).run Tryd.prog w = .ok (.int .u8 22) w := by kernel_rfl
theorem Tryd.kind25 (w : World) : ((ReflectliteType.abiMethod fun t => Functor.map (fun a : Nat => Value.int IntKind.u8 (a : Int)) (Rtype.kind t)) #[.pointer (some ⟨23, 56, none⟩)]).run Tryd.prog w = .ok (.int .u8 22) w := by kernel_rfl

/-! ### THE ENTRIES THAT READ OR WRITE MEMORY: laws with a premise on the cell (after Derived/Lib/ReflectliteSlice.lean's manner: each unfolding a lemma of its own, by rfl) -/
theorem rlm (z : Sem Value) (f : TypeId → Addr → Nat → Nat → Sem Value) (v : Value) :
    ReflectliteValue.method z f #[v] = (do match ← ReflectliteValue.parts v with | none => z | some (t, a, fl) => f t a fl (fl % 32)) := rfl
theorem Tryd.parts27 (a : Addr) (w : World) : (ReflectliteValue.parts (.agg #[.pointer (some ⟨23, 58, none⟩), .pointer (some a), .int .u64 150])).run Tryd.prog w = .ok (some (58, a, 150)) w := by kernel_rfl
/-- (Value).IsNil at the Value of a **p.E that is not nil. -/
theorem Tryd.isNil27 (a p : Addr) (W : World) (ha : W.cell? a = some (.pointer (some p))) :
    (ReflectliteValue.method (ReflectliteValue.valueError "reflectlite.Value.IsNil" 0) ReflectliteValue.isNil #[.agg #[.pointer (some ⟨23, 58, none⟩), .pointer (some a), .int .u64 150]]).run Tryd.prog W = .ok (.bool false) W := by
  rw [rlm]
  simp only [Sem.run_bind, Tryd.parts27, Result.andThen]
  simp [ReflectliteValue.isNil, loadVar, isAgg, underlying, Tryd.underlying58, ha, Result.andThen]

theorem Tryd.methodElem (h : Value) (w : World) : (Go.method 266 88 (.agg #[h]) "Elem").run Tryd.prog w = .ok (109, .agg #[h]) w := by kernel_rfl
theorem Tryd.methodImplements (h : Value) (w : World) : (Go.method 266 88 (.agg #[h]) "Implements").run Tryd.prog w = .ok (110, .agg #[h]) w := by kernel_rfl
theorem Tryd.methodAssignableTo (h : Value) (w : World) : (Go.method 266 88 (.agg #[h]) "AssignableTo").run Tryd.prog w = .ok (107, .agg #[h]) w := by kernel_rfl
theorem Tryd.elem27 (w : World) : (ReflectliteType.method ReflectliteType.elem #[.agg #[.pointer (some ⟨23, 58, none⟩)]]).run Tryd.prog w = .ok (.iface 88 (.agg #[.pointer (some ⟨23, 56, none⟩)])) w := by kernel_rfl
theorem Tryd.implements25 (w : World) : (ReflectliteType.relation "Implements" ReflectliteType.implements_ #[.agg #[.pointer (some ⟨23, 56, none⟩)], .iface 88 (.agg #[.pointer (some ⟨23, 30, none⟩)])]).run Tryd.prog w = .ok (.bool true) w := by kernel_rfl
theorem Tryd.typeOf25 (v : Value) (w : World) : (ReflectliteType.typeOf #[.iface 56 v]).run Tryd.prog w = .ok (.iface 88 (.agg #[.pointer (some ⟨23, 56, none⟩)])) w := by kernel_rfl
theorem Tryd.assignable25 (w : World) : (ReflectliteType.relation "AssignableTo" ReflectliteType.assignableTo #[.agg #[.pointer (some ⟨23, 56, none⟩)], .iface 88 (.agg #[.pointer (some ⟨23, 56, none⟩)])]).run Tryd.prog w = .ok (.bool true) w := by kernel_rfl
theorem Tryd.valueOf25 (e : Addr) (w : World) : (ReflectliteValue.unpack (.iface 56 (.pointer (some e)))).run Tryd.prog w
    = .ok (.agg #[.pointer (some ⟨23, 56, none⟩), .pointer (some ⟨w.heap.size, 0, none⟩), .int .u64 150]) (w.alloc (.cells #[.pointer (some e)] 56)) := by kernel_rfl

theorem Tryd.elemOf27 (w : World) : (Rtype.elem? 58).run Tryd.prog w = .ok (some 56) w := by kernel_rfl
theorem Tryd.mk25 (p : Addr) (w : World) : (ReflectliteValue.mk 56 p ReflectliteValue.flagAddr).run Tryd.prog w = .ok (.agg #[.pointer (some ⟨23, 56, none⟩), .pointer (some p), .int .u64 406]) w := by kernel_rfl
/-- (Value).Elem at the Value of a **p.E that is not nil: the Value of the *p.E variable that it points to, addressable. -/
theorem Tryd.elemV27 (a p : Addr) (W : World) (ha : W.cell? a = some (.pointer (some p))) :
    (ReflectliteValue.method (ReflectliteValue.valueError "reflectlite.Value.Elem" 0) ReflectliteValue.elem #[.agg #[.pointer (some ⟨23, 58, none⟩), .pointer (some a), .int .u64 150]]).run Tryd.prog W
      = .ok (.agg #[.pointer (some ⟨23, 56, none⟩), .pointer (some p), .int .u64 406]) W := by
  rw [rlm]
  simp only [Sem.run_bind, Tryd.parts27, Result.andThen]
  simp [ReflectliteValue.elem, loadVar, isAgg, underlying, Tryd.underlying58, ha, Result.andThen, Tryd.elemOf27, Tryd.mk25]
theorem rls (v x : Value) : ReflectliteValue.set #[v, x] = (do
    let (some (dst, a, fl), some (src, b, _)) := (← ReflectliteValue.parts v, ← ReflectliteValue.parts x)
      | unsupported (.noEntry "extern/(internal/reflectlite.Value).Set.zeroValue")
    if fl / ReflectliteValue.flagAddr % 2 == 0 then unsupported (.noEntry "extern/(internal/reflectlite.Value).Set.unaddressable")
    let val ← loadVar src b
    if ← Rtype.directlyAssignable dst src then storeVar dst a val
    else if ← Rtype.implements dst src then
      if (← Rtype.kind src) == 20 then
        match val with
        | .nilIface => unsupported (.noEntry "extern/reflectlite: a nil value of one interface type handed on as a value of another")
        | _ => storeVar dst a val
      else storeVar dst a (.iface src val)
    else panicString ("reflectlite.Set: value of type " ++ (← Rtype.spelt src) ++ " is not assignable to type " ++ (← Rtype.spelt dst))
    pure (.tuple #[])) := rfl
theorem Tryd.parts25a (a : Addr) (w : World) : (ReflectliteValue.parts (.agg #[.pointer (some ⟨23, 56, none⟩), .pointer (some a), .int .u64 406])).run Tryd.prog w = .ok (some (56, a, 406)) w := by kernel_rfl
theorem Tryd.parts25 (a : Addr) (w : World) : (ReflectliteValue.parts (.agg #[.pointer (some ⟨23, 56, none⟩), .pointer (some a), .int .u64 150])).run Tryd.prog w = .ok (some (56, a, 150)) w := by kernel_rfl
theorem Tryd.direct25 (w : World) : (Rtype.directlyAssignable 56 56).run Tryd.prog w = .ok true w := by kernel_rfl
/-- (Value).Set: the *p.E variable at 'ta' gets what the Value's own variable 'b' holds. -/
theorem Tryd.set25 (ta b e : Addr) (old : Value) (W : World) (hb : W.cell? b = some (.pointer (some e))) (ht : W.cell? ta = some old) (hf : W.frozen? ta = false) :
    (ReflectliteValue.set #[.agg #[.pointer (some ⟨23, 56, none⟩), .pointer (some ta), .int .u64 406], .agg #[.pointer (some ⟨23, 56, none⟩), .pointer (some b), .int .u64 150]]).run Tryd.prog W
      = .ok (.tuple #[]) (W.setCell ta (.pointer (some e))) := by
  rw [rls]
  simp only [Sem.run_bind, Tryd.parts25a, Tryd.parts25, Result.andThen]
  simp [ReflectliteValue.flagAddr, loadVar, isAgg, underlying, Tryd.underlying56, hb, Result.andThen, Tryd.direct25, storeVar, Value.cells, storeCells, Addr.add]
  rw [run_store Tryd.prog W ta _ _ (by rfl)]
  simp [ht, hf]

set_option maxHeartbeats 4000000 in
theorem as_hit (e t : Addr) (old : Value) (w : World) (hg : w.cell? ⟨21, 0, none⟩ = some (.iface 88 (.agg #[.pointer (some ⟨23, 30, none⟩)]))) (ht0 : w.cell? t = some old) (hf0 : w.frozen? t = false) :
    Calls Tryd.prog 21 #[.iface 56 (.pointer (some e)), .iface 58 (.pointer (some t))] w fun ev w' => ev = .returned (.bool true) ∧ w' = ((((w.alloc (.cells #[.pointer (some t)] 58)).alloc (.cells #[.pointer (some ⟨23, 58, none⟩), .pointer (some ⟨w.heap.size, 0, none⟩), .int .u64 150] 74)).alloc (.cells #[.pointer (some ⟨23, 58, none⟩), .pointer (some ⟨w.heap.size, 0, none⟩), .int .u64 150] 74)).alloc (.cells #[.pointer (some e)] 56)).setCell t (.pointer (some e)) := by
  have h6 := @run_callFunc_extern Tryd.prog 32 _ (fun args => ReflectliteValue.unpack (args.getD 0 (.tuple #[]))) Tryd.func32 (by kernel_rfl) (by kernel_rfl) (by kernel_rfl) (by kernel_rfl)
  have h7 := @run_callFunc_extern Tryd.prog 33 _ (ReflectliteValue.methodAny (ReflectliteValue.valueError "reflectlite.Value.Type" 0) (fun t _ _ _ => ReflectliteType.toType t)) Tryd.func33 (by kernel_rfl) (by kernel_rfl) (by kernel_rfl) (by kernel_rfl)
  have h8 := @run_callFunc_extern Tryd.prog 34 _ (ReflectliteValue.method (ReflectliteValue.valueError "reflectlite.Value.IsNil" 0) ReflectliteValue.isNil) Tryd.func34 (by kernel_rfl) (by kernel_rfl) (by kernel_rfl) (by kernel_rfl)
  have h27 := @run_callFunc_extern Tryd.prog 98 _ (ReflectliteType.abiMethod fun t => do pure (.int .u8 (← Rtype.kind t))) Tryd.func98 (by kernel_rfl) (by kernel_rfl) (by kernel_rfl) (by kernel_rfl)
  have h37 := @run_callFunc_extern Tryd.prog 109 _ (ReflectliteType.method ReflectliteType.elem) Tryd.func109 (by kernel_rfl) (by kernel_rfl) (by kernel_rfl) (by kernel_rfl)
  have h38 := @run_callFunc_extern Tryd.prog 110 _ (ReflectliteType.relation "Implements" ReflectliteType.implements_) Tryd.func110 (by kernel_rfl) (by kernel_rfl) (by kernel_rfl) (by kernel_rfl)
  have h10 := @run_callFunc_extern Tryd.prog 27 _ ReflectliteType.typeOf Tryd.func27 (by kernel_rfl) (by kernel_rfl) (by kernel_rfl) (by kernel_rfl)
  have h35 := @run_callFunc_extern Tryd.prog 107 _ (ReflectliteType.relation "AssignableTo" ReflectliteType.assignableTo) Tryd.func107 (by kernel_rfl) (by kernel_rfl) (by kernel_rfl) (by kernel_rfl)
  have h11 := @run_callFunc_extern Tryd.prog 46 _ (ReflectliteValue.method (ReflectliteValue.valueError "reflectlite.Value.Elem" 0) ReflectliteValue.elem) Tryd.func46 (by kernel_rfl) (by kernel_rfl) (by kernel_rfl) (by kernel_rfl)
  have h12 := @run_callFunc_extern Tryd.prog 47 _ ReflectliteValue.set Tryd.func47 (by kernel_rfl) (by kernel_rfl) (by kernel_rfl) (by kernel_rfl)
  have tO := Tryd.typeOf25
  have mA := Tryd.methodAssignableTo
  have a25 := Tryd.assignable25
  have v25 := Tryd.valueOf25
  have f6 := Tryd.valueOf27
  have f7 := Tryd.type27
  have mK := Tryd.methodKind
  have mE := Tryd.methodElem
  have mI := Tryd.methodImplements
  have k27 := Tryd.kind27
  have k25 := Tryd.kind25
  have e27 := Tryd.elem27
  have i25 := Tryd.implements25
  have n8 := Tryd.isNil27 ⟨w.heap.size, 0, none⟩ t ((w.alloc (.cells #[.pointer (some t)] 58)).alloc (.cells #[.pointer (some ⟨23, 58, none⟩), .pointer (some ⟨w.heap.size, 0, none⟩), .int .u64 150] 74)) (by simp)
  have hlt : 21 < w.heap.size := World.block_lt_of_cell? w _ hg
  have hg2 : ((w.alloc (.cells #[.pointer (some t)] 58)).alloc (.cells #[.pointer (some ⟨23, 58, none⟩), .pointer (some ⟨w.heap.size, 0, none⟩), .int .u64 150] 74)).cell? ⟨21, 0, none⟩ = some (.iface 88 (.agg #[.pointer (some ⟨23, 30, none⟩)])) := by
    rw [World.cell?_alloc_lt _ _ ⟨21, 0, none⟩ (by simp; omega), World.cell?_alloc_lt _ _ ⟨21, 0, none⟩ hlt]; exact hg
  have htl : t.block < w.heap.size := by
    rcases Nat.lt_or_ge t.block w.heap.size with h | h
    · exact h
    · simp [World.cell?, Array.getElem?_eq_none h] at ht0
  have el := Tryd.elemV27 ⟨w.heap.size, 0, none⟩ t (((w.alloc (.cells #[.pointer (some t)] 58)).alloc (.cells #[.pointer (some ⟨23, 58, none⟩), .pointer (some ⟨w.heap.size, 0, none⟩), .int .u64 150] 74)).alloc (.cells #[.pointer (some ⟨23, 58, none⟩), .pointer (some ⟨w.heap.size, 0, none⟩), .int .u64 150] 74)) (by rw [World.cell?_alloc_lt _ _ ⟨w.heap.size, 0, none⟩ (by simp; omega)]; simp)
  have st := Tryd.set25 t ⟨w.heap.size + 1 + 1 + 1, 0, none⟩ e old ((((w.alloc (.cells #[.pointer (some t)] 58)).alloc (.cells #[.pointer (some ⟨23, 58, none⟩), .pointer (some ⟨w.heap.size, 0, none⟩), .int .u64 150] 74)).alloc (.cells #[.pointer (some ⟨23, 58, none⟩), .pointer (some ⟨w.heap.size, 0, none⟩), .int .u64 150] 74)).alloc (.cells #[.pointer (some e)] 56))
    (by rw [World.cell?_alloc_at _ _ _ _ (by simp)]; rfl)
    (by rw [World.cell?_alloc_lt _ _ t (by simp; omega), World.cell?_alloc_lt _ _ t (by simp; omega), World.cell?_alloc_lt _ _ t (by simp; omega), World.cell?_alloc_lt _ _ t htl]; exact ht0)
    (by rw [World.frozen?_alloc_old _ _ t (by simp; omega), World.frozen?_alloc_old _ _ t (by simp; omega), World.frozen?_alloc_old _ _ t (by simp; omega), World.frozen?_alloc_old _ _ t (Nat.ne_of_lt htl)]; exact hf0)
  go_enter Tryd.func21, Tryd.ntmps21
  go_wp2
  refine wp_loop_rounds 1 ?_
  rw [rounds_succ]
  go_wp2
  go_ret
  exact ⟨rfl, rfl⟩

/-- The variable errors.errorType lies as laid. -/
def ErrT (w : World) : Prop := w.cell? ⟨21, 0, none⟩ = some (.iface 88 (.agg #[.pointer (some ⟨23, 30, none⟩)]))
theorem ErrT.below {w w' : World} (h : ErrT w) (hb : Below w.heap.size w w') : ErrT w' := (hb.cell (World.block_lt_of_cell? w _ h)).trans h

theorem place_fault (g : Nat) (p : Int) (a : Addr) (w : World) (hT : ErrT w) (hf : Blk w g 60 #[.int .i64 p, errV a]) : Calls Tryd.prog 12 #[faultV g] w fun e w' => e = .returned (.int .i64 p) ∧ Below w.heap.size w w' := by
  have hb := (Below.refl w.heap.size w).alloc (Nat.le_refl _) (.cells #[.pointer none] 56)
  have hbx := Blk.new w 56 #[.pointer none]
  have HT := hide (hT.below hb)
  have hgl := hf.lt
  have HF := hide (And.intro hf hb)
  clear hb hT hf
  unfold faultV
  go_enter Tryd.func12, Tryd.ntmps12
  go_wp2_with fail
  refine (as_hit _ _ (.pointer none) _ HT.out (by rw [hbx.cell]; rfl) (hbx.frozen 0)).mono ?_
  rintro e w1 ⟨rfl, rfl⟩
  have hbA := (((((Below.refl (w.alloc (.cells #[.pointer none] 56)).heap.size (w.alloc (.cells #[.pointer none] 56))).alloc (Nat.le_refl _) (.cells #[.pointer (some ⟨w.heap.size, 0, none⟩)] 58)).alloc (by simp) (.cells #[.pointer (some ⟨23, 58, none⟩), .pointer (some ⟨(w.alloc (.cells #[.pointer none] 56)).heap.size, 0, none⟩), .int .u64 150] 74))).alloc (by simp <;> omega) (.cells #[.pointer (some ⟨23, 58, none⟩), .pointer (some ⟨(w.alloc (.cells #[.pointer none] 56)).heap.size, 0, none⟩), .int .u64 150] 74)).alloc (by simp <;> omega) (.cells #[.pointer (some ⟨g, 0, none⟩)] 56)
  have hbx2 := hbx.below hbA hbx.lt
  have hf2 := (HF.out.1.below HF.out.2 hgl).below hbA (by simp; omega)
  have hb2 := HF.out.2.trans (hbA.mono (by simp))
  clear hbA hbx HF HT
  generalize ((((w.alloc (.cells #[.pointer none] 56)).alloc (.cells #[.pointer (some ⟨w.heap.size, 0, none⟩)] 58)).alloc (.cells #[.pointer (some ⟨23, 58, none⟩), .pointer (some ⟨(w.alloc (.cells #[.pointer none] 56)).heap.size, 0, none⟩), .int .u64 150] 74)).alloc (.cells #[.pointer (some ⟨23, 58, none⟩), .pointer (some ⟨(w.alloc (.cells #[.pointer none] 56)).heap.size, 0, none⟩), .int .u64 150] 74)).alloc (.cells #[.pointer (some ⟨g, 0, none⟩)] 56) = W at *
  have hs := heap_setCell_same W w.heap.size 0 _ _ (.pointer (some ⟨g, 0, none⟩)) hbx2
  have HF2 := hide (And.intro (hf2.far (p := ⟨w.heap.size, 0, none⟩) (by show g ≠ w.heap.size; omega) (.pointer (some ⟨g, 0, none⟩))) (And.intro (show Blk _ w.heap.size _ #[.pointer (some ⟨g, 0, none⟩)] from hs) (hb2.setCell (p := ⟨w.heap.size, 0, none⟩) (Nat.le_refl _) (.pointer (some ⟨g, 0, none⟩)))))
  clear hs hf2 hbx2 hb2
  generalize (W.setCell ⟨w.heap.size, 0, none⟩ (.pointer (some ⟨g, 0, none⟩))) = W2 at *
  have c0 := HF2.out.2.1.cell
  have c1 := HF2.out.1.cell
  go_wp2_with fail
  go_ret
  exact ⟨rfl, HF2.out.2.2⟩

set_option maxRecDepth 100000 in
set_option maxHeartbeats 2000000 in
theorem num_fault (w : World) (a : Nat → Addr) (gf : Nat) (p : Int) (g : Nat) (hg : g < 21) (he : Errs w a) (hf : Blk w gf 60 #[.int .i64 p, errV (a (sentVar g))]) :
    Calls Tryd.prog 7 #[faultV gf] w fun e w' => e = .returned (.int .i64 (g + 1)) ∧ Below w.heap.size w w' := by
  have hn := fun w => run_eql_iface_nil (P := Tryd.prog) (w := w) 30 (by kernel_rfl) 56 (.pointer (some ⟨gf, 0, none⟩))
  have v0 := he.var 2 (by decide)
  have v1 := he.var 3 (by decide)
  have v2 := he.var 4 (by decide)
  have v3 := he.var 5 (by decide)
  have v4 := he.var 6 (by decide)
  have v5 := he.var 7 (by decide)
  have v6 := he.var 8 (by decide)
  have v7 := he.var 9 (by decide)
  have v8 := he.var 10 (by decide)
  have v9 := he.var 1 (by decide)
  have v10 := he.var 11 (by decide)
  have v11 := he.var 0 (by decide)
  have v12 := he.var 12 (by decide)
  have v13 := he.var 13 (by decide)
  have v14 := he.var 14 (by decide)
  have v15 := he.var 15 (by decide)
  have v16 := he.var 16 (by decide)
  have v17 := he.var 17 (by decide)
  have v18 := he.var 18 (by decide)
  have v19 := he.var 19 (by decide)
  have v20 := he.var 20 (by decide)
  have HE := hide he
  have HFB := hide hf
  clear he hf
  unfold errV faultV at *
  go_enter Tryd.func7, Tryd.ntmps7
  go_wp2_with fail
  have hbelF : Below w.heap.size w (w.alloc (.cells (errRow a) 30)) := (Below.refl _ _).alloc (Nat.le_refl _) _
  have hbF := Blk.new w 30 (errRow a)
  have HE2 := hide (HE.out.below hbelF)
  replace HFB := hide (HFB.out.below hbelF HFB.out.lt)
  go_loopw [4, 33] (fun nv kv wr => ∃ k : Nat, kv = .int .i64 k ∧ k ≤ 21 ∧ nv = .int .i64 (if g < k then (g : Int) + 1 else -1) ∧ wr = w.alloc (.cells (errRow a) 30)) (fun _ kv _ => 21 - (intOf kv).toNat)
  case atStart => exact ⟨0, rfl, by decide, by simp, rfl⟩
  case round =>
    obtain ⟨k, rfl, hk, rfl, rfl⟩ := hrel
    generalize w.alloc (.cells (errRow a) 30) = W at *
    by_cases hlt : k < 21
    · have g1 : decide ((k : Int) < 21) = true := decide_eq_true (by omega)
      have hck := hbF.cell k
      rw [show (errRow a)[k]? = some (errV (a (sentVar k))) from by simp [errRow, hlt]] at hck
      unfold errV at hck
      have HIs := hide (is_fault HE2.out p gf (sentVar g) (sentVar k) (sv_lt hg) (sv_lt hlt) HFB.out)
      rw [sv_dec hg hlt] at HIs
      have HB := hide hbelF
      clear hbelF hbF
      by_cases hgk : g = k
      · subst hgk
        have e2 : (if g < g then (g : Int) + 1 else -1) = -1 := by simp
        rw [e2]
        clear e2
        have e1 : decide (g = g) = true := by simp
        rw [e1] at HIs
        clear e1
        go_wp2_with fail
        refine HIs.out.mono ?_
        rintro e w2 ⟨rfl, rfl⟩
        go_wp2_with fail
        go_roundw
        case rel => exact ⟨g + 1, by go_num, hlt, by simp, trivial⟩
        case measure => simp [intOf]; omega
      · have e1 : decide (g = k) = false := by simp [hgk]
        rw [e1] at HIs
        have e2 : (if g < k + 1 then (g : Int) + 1 else -1) = (if g < k then (g : Int) + 1 else -1) := by
          split <;> split <;> omega
        have H2 := hide e2
        clear e2 e1
        generalize (if g < k then (g : Int) + 1 else -1) = cur at *
        go_wp2_with fail
        refine HIs.out.mono ?_
        rintro e w2 ⟨rfl, rfl⟩
        go_wp2_with fail
        go_roundw
        case rel => exact ⟨k + 1, by go_num, hlt, by rw [H2.out], trivial⟩
        case measure => simp [intOf]; omega
    · have hk21 : k = 21 := by omega
      subst hk21
      have e2 : (if g < 21 then (g : Int) + 1 else -1) = g + 1 := by simp [hg]
      rw [e2]
      have HB := hide hbelF
      clear hbelF hbF
      go_wp2_with fail
      go_ret
      exact ⟨rfl, HB.out⟩
end Go.Proofs.YtpkcklpjbeginaaDoor
