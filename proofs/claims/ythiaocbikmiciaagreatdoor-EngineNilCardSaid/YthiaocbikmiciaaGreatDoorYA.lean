/- A part of the proof of one law's row. -/
import Derived.Test.YthiaocbikmiciaaGreatDoorProg
import Derived.WalkKit
import Derived.LaidEql
import Derived.Stop.Asserts
import Derived.RowKitTokens
namespace Go.Proofs.YthiaocbikmiciaaGreatDoor
open Go.RowKit Go.Extern.Stop Go.Stop Go.Extern

/-- errors.As(nil, target). -/
theorem as_nil (t : Value) (w : World) :
    Calls Tryz.prog 13 #[.nilIface, t] w fun e w' => e = .returned (.bool false) ∧ w' = w := by
  go_enter Tryz.func13, Tryz.ntmps13
  go_wp2
  go_ret
  exact ⟨rfl, rfl⟩

/-! ### CLOSED FACTS ON THE MODEL's ENTRIES FOR internal/reflectlite, at this program's types: 25: *p.E · 27: **p.E · 23: error · 45: reflectlite's rtype · 1: how many package-level variables the dump has -/
theorem Fs.valueOf74 (t : Addr) (w : World) : (ReflectliteValue.unpack (.iface 74 (.pointer (some t)))).run Tryz.prog w
    = .ok (.agg #[.pointer (some ⟨12, 74, none⟩), .pointer (some ⟨w.heap.size, 0, none⟩), .int .u64 150]) (w.alloc (.cells #[.pointer (some t)] 74)) := by kernel_rfl
theorem Fs.type74 (a : Addr) (w : World) : (ReflectliteValue.methodAny (ReflectliteValue.valueError "reflectlite.Value.Type" 0) (fun t _ _ _ => ReflectliteType.toType t) #[.agg #[.pointer (some ⟨12, 74, none⟩), .pointer (some a), .int .u64 150]]).run Tryz.prog w
    = .ok (.iface 202 (.agg #[.pointer (some ⟨12, 74, none⟩)])) w := by kernel_rfl
theorem Fs.methodKind (h : Value) (w : World) : (Go.method 590 202 (.agg #[h]) "Kind").run Tryz.prog w = .ok (333, h) w := by kernel_rfl
theorem Fs.kind74 (w : World) : ((ReflectliteType.abiMethod fun t => (fun a : Nat => Value.int IntKind.u8 (a : Int)) <$> Rtype.kind t) #[.pointer (some ⟨12, 74, none⟩)]).run Tryz.prog w = .ok (.int .u8 22) w := by kernel_rfl
theorem Fs.kind72 (w : World) : ((ReflectliteType.abiMethod fun t => (fun a : Nat => Value.int IntKind.u8 (a : Int)) <$> Rtype.kind t) #[.pointer (some ⟨12, 72, none⟩)]).run Tryz.prog w = .ok (.int .u8 25) w := by kernel_rfl

/-! ### THE ENTRIES THAT READ OR WRITE MEMORY: laws with a premise on the cell (after Derived/Lib/ReflectliteSlice.lean's manner: each unfolding a lemma of its own, by rfl) -/
theorem rlm (z : Sem Value) (f : TypeId → Addr → Nat → Nat → Sem Value) (v : Value) :
    ReflectliteValue.method z f #[v] = (do match ← ReflectliteValue.parts v with | none => z | some (t, a, fl) => f t a fl (fl % 32)) := rfl
theorem Fs.parts74 (a : Addr) (w : World) : (ReflectliteValue.parts (.agg #[.pointer (some ⟨12, 74, none⟩), .pointer (some a), .int .u64 150])).run Tryz.prog w = .ok (some (74, a, 150)) w := by kernel_rfl
/-- (Value).IsNil at the Value of a **p.E that is not nil. -/
theorem Fs.isNil74 (a p : Addr) (W : World) (ha : W.cell? a = some (.pointer (some p))) :
    (ReflectliteValue.method (ReflectliteValue.valueError "reflectlite.Value.IsNil" 0) ReflectliteValue.isNil #[.agg #[.pointer (some ⟨12, 74, none⟩), .pointer (some a), .int .u64 150]]).run Tryz.prog W = .ok (.bool false) W := by
  rw [rlm]
  simp only [Sem.run_bind, Fs.parts74, Result.andThen]
  simp [ReflectliteValue.isNil, loadVar, isAgg, underlying, Tryz.underlying74, ha, Result.andThen]

theorem Fs.methodElem (h : Value) (w : World) : (Go.method 590 202 (.agg #[h]) "Elem").run Tryz.prog w = .ok (344, .agg #[h]) w := by kernel_rfl
theorem Fs.methodImplements (h : Value) (w : World) : (Go.method 590 202 (.agg #[h]) "Implements").run Tryz.prog w = .ok (345, .agg #[h]) w := by kernel_rfl
theorem Fs.methodAssignableTo (h : Value) (w : World) : (Go.method 590 202 (.agg #[h]) "AssignableTo").run Tryz.prog w = .ok (342, .agg #[h]) w := by kernel_rfl
theorem Fs.elem74 (w : World) : (ReflectliteType.method ReflectliteType.elem #[.agg #[.pointer (some ⟨12, 74, none⟩)]]).run Tryz.prog w = .ok (.iface 202 (.agg #[.pointer (some ⟨12, 72, none⟩)])) w := by kernel_rfl
theorem Fs.implements72 (w : World) : (ReflectliteType.relation "Implements" ReflectliteType.implements_ #[.agg #[.pointer (some ⟨12, 72, none⟩)], .iface 202 (.agg #[.pointer (some ⟨12, 69, none⟩)])]).run Tryz.prog w = .ok (.bool true) w := by kernel_rfl
theorem Fs.typeOf72 (v : Value) (w : World) : (ReflectliteType.typeOf #[.iface 72 v]).run Tryz.prog w = .ok (.iface 202 (.agg #[.pointer (some ⟨12, 72, none⟩)])) w := by kernel_rfl
theorem Fs.assignable72 (w : World) : (ReflectliteType.relation "AssignableTo" ReflectliteType.assignableTo #[.agg #[.pointer (some ⟨12, 72, none⟩)], .iface 202 (.agg #[.pointer (some ⟨12, 72, none⟩)])]).run Tryz.prog w = .ok (.bool true) w := by kernel_rfl
theorem Fs.valueOf72 (x y : Value) (w : World) : (ReflectliteValue.unpack (.iface 72 (.agg #[x, y]))).run Tryz.prog w
    = .ok (.agg #[.pointer (some ⟨12, 72, none⟩), .pointer (some ⟨w.heap.size, 0, none⟩), .int .u64 153]) (w.alloc (.cells #[x, y] 72)) := by kernel_rfl

theorem Fs.elemOf74 (w : World) : (Rtype.elem? 74).run Tryz.prog w = .ok (some 72) w := by kernel_rfl
theorem Fs.mk72 (p : Addr) (w : World) : (ReflectliteValue.mk 72 p ReflectliteValue.flagAddr).run Tryz.prog w = .ok (.agg #[.pointer (some ⟨12, 72, none⟩), .pointer (some p), .int .u64 409]) w := by kernel_rfl
/-- (Value).Elem at the Value of a **p.E that is not nil: the Value of the *p.E variable that it points to, addressable. -/
theorem Fs.elemV74 (a p : Addr) (W : World) (ha : W.cell? a = some (.pointer (some p))) :
    (ReflectliteValue.method (ReflectliteValue.valueError "reflectlite.Value.Elem" 0) ReflectliteValue.elem #[.agg #[.pointer (some ⟨12, 74, none⟩), .pointer (some a), .int .u64 150]]).run Tryz.prog W
      = .ok (.agg #[.pointer (some ⟨12, 72, none⟩), .pointer (some p), .int .u64 409]) W := by
  rw [rlm]
  simp only [Sem.run_bind, Fs.parts74, Result.andThen]
  simp [ReflectliteValue.elem, loadVar, isAgg, underlying, Tryz.underlying74, ha, Result.andThen, Fs.elemOf74, Fs.mk72]
theorem rls (v x : Value) : ReflectliteValue.set #[v, x] = (do
    let (some (dst, a, fl), some (src, b, _)) := (← ReflectliteValue.parts v, ← ReflectliteValue.parts x)
      | unsupported (.noEntry "extern/(internal/reflectlite.Value).Set.zeroValue")
    if fl / ReflectliteValue.flagAddr % 2 == 0 then unsupported (.noEntry "extern/(internal/reflectlite.Value).Set.unaddressable")
    let val ← loadVar src b
    if ← Rtype.directlyAssignable dst src then storeVar dst a val
    else if ← Rtype.implements dst src then
      if (← Rtype.kind src) == 20 then
        match val with
        | .nilIface => unsupported (.noEntry "extern/reflectlite: a nil value of one interface type handed on as a value of another")
        | _ => storeVar dst a val
      else storeVar dst a (.iface src val)
    else panicString ("reflectlite.Set: value of type " ++ (← Rtype.spelt src) ++ " is not assignable to type " ++ (← Rtype.spelt dst))
    pure (.tuple #[])) := rfl
theorem Fs.parts72a (a : Addr) (w : World) : (ReflectliteValue.parts (.agg #[.pointer (some ⟨12, 72, none⟩), .pointer (some a), .int .u64 409])).run Tryz.prog w = .ok (some (72, a, 409)) w := by kernel_rfl
theorem Fs.parts72 (a : Addr) (w : World) : (ReflectliteValue.parts (.agg #[.pointer (some ⟨12, 72, none⟩), .pointer (some a), .int .u64 153])).run Tryz.prog w = .ok (some (72, a, 153)) w := by kernel_rfl
theorem Fs.direct72 (w : World) : (Rtype.directlyAssignable 72 72).run Tryz.prog w = .ok true w := by kernel_rfl
theorem Fs.size72 (w : World) : (sizeOf 72).run Tryz.prog w = .ok 2 w := by kernel_rfl
theorem Fs.load72 (b : Nat) (x y : Value) (W : World) (h0 : W.cell? ⟨b, 0, none⟩ = some x) (h1 : W.cell? ⟨b, 1, none⟩ = some y) : (loadVar 72 ⟨b, 0, none⟩).run Tryz.prog W = .ok (.agg #[x, y]) W := by
  simp [loadVar, isAgg, underlying, Tryz.underlying72, Fs.size72, loadCells, loadCellsFrom, Addr.add, h0, h1, Result.andThen]
/-- (Value).Set: the variable at 'tb' gets what the Value's own variable holds. -/
theorem Fs.set72 (tb o b : Nat) (x y : Int) (old0 old1 : Value) (W : World) (h0 : W.cell? ⟨b, 0, none⟩ = some (.int .i64 x)) (h1 : W.cell? ⟨b, 1, none⟩ = some (.int .i64 y)) (t0 : W.cell? ⟨tb, o, none⟩ = some old0) (t1 : W.cell? ⟨tb, o + 1, none⟩ = some old1)
    (f0 : W.frozen? ⟨tb, o, none⟩ = false) (f1 : W.frozen? ⟨tb, o + 1, none⟩ = false) :
    (ReflectliteValue.set #[.agg #[.pointer (some ⟨12, 72, none⟩), .pointer (some ⟨tb, o, none⟩), .int .u64 409], .agg #[.pointer (some ⟨12, 72, none⟩), .pointer (some ⟨b, 0, none⟩), .int .u64 153]]).run Tryz.prog W
      = .ok (.tuple #[]) ((W.setCell ⟨tb, o, none⟩ (.int .i64 x)).setCell ⟨tb, o + 1, none⟩ (.int .i64 y)) := by
  rw [rls]
  simp only [Sem.run_bind, Fs.parts72a, Fs.parts72, Result.andThen]
  simp [ReflectliteValue.flagAddr, Fs.load72 b _ _ W h0 h1, Result.andThen, Fs.direct72, storeVar, Value.cells, Fs.size72, storeCells, Addr.add]
  rw [run_store Tryz.prog W ⟨tb, o, none⟩ _ _ (by rfl)]
  have t1' : (W.setCell ⟨tb, o, none⟩ (.int .i64 x)).cell? ⟨tb, o + 1, none⟩ = some old1 := by rw [World.cell?_setCell_other (h := show (⟨tb, o, none⟩ : Addr) ≠ ⟨tb, o + 1, none⟩ by simp)]; exact t1
  simp [t0, f0]
  rw [run_store Tryz.prog _ ⟨tb, o + 1, none⟩ _ _ (by rfl)]
  simp [t1', f1]

set_option maxHeartbeats 4000000 in
theorem as_hit (x y : Int) (tb o : Nat) (old0 old1 : Value) (w : World) (hg : w.cell? ⟨0, 0, none⟩ = some (.iface 202 (.agg #[.pointer (some ⟨12, 69, none⟩)]))) (ht0 : w.cell? ⟨tb, o, none⟩ = some old0) (ht1 : w.cell? ⟨tb, o + 1, none⟩ = some old1) (hf0 : w.frozen? ⟨tb, o, none⟩ = false) (hf1 : w.frozen? ⟨tb, o + 1, none⟩ = false) :
    Calls Tryz.prog 13 #[.iface 72 (.agg #[.int .i64 x, .int .i64 y]), .iface 74 (.pointer (some ⟨tb, o, none⟩))] w fun ev w' => ev = .returned (.bool true) ∧ w' = (((((w.alloc (.cells #[.pointer (some ⟨tb, o, none⟩)] 74)).alloc (.cells #[.pointer (some ⟨12, 74, none⟩), .pointer (some ⟨w.heap.size, 0, none⟩), .int .u64 150] 107)).alloc (.cells #[.pointer (some ⟨12, 74, none⟩), .pointer (some ⟨w.heap.size, 0, none⟩), .int .u64 150] 107)).alloc (.cells #[.int .i64 x, .int .i64 y] 72)).setCell ⟨tb, o, none⟩ (.int .i64 x)).setCell ⟨tb, o + 1, none⟩ (.int .i64 y) := by
  have h6 := @run_callFunc_extern Tryz.prog 34 _ (fun args => ReflectliteValue.unpack (args.getD 0 (.tuple #[]))) Tryz.func34 (by kernel_rfl) (by kernel_rfl) (by kernel_rfl) (by kernel_rfl)
  have h7 := @run_callFunc_extern Tryz.prog 35 _ (ReflectliteValue.methodAny (ReflectliteValue.valueError "reflectlite.Value.Type" 0) (fun t _ _ _ => ReflectliteType.toType t)) Tryz.func35 (by kernel_rfl) (by kernel_rfl) (by kernel_rfl) (by kernel_rfl)
  have h8 := @run_callFunc_extern Tryz.prog 36 _ (ReflectliteValue.method (ReflectliteValue.valueError "reflectlite.Value.IsNil" 0) ReflectliteValue.isNil) Tryz.func36 (by kernel_rfl) (by kernel_rfl) (by kernel_rfl) (by kernel_rfl)
  have h27 := @run_callFunc_extern Tryz.prog 333 _ (ReflectliteType.abiMethod fun t => do pure (.int .u8 (← Rtype.kind t))) Tryz.func333 (by kernel_rfl) (by kernel_rfl) (by kernel_rfl) (by kernel_rfl)
  have h37 := @run_callFunc_extern Tryz.prog 344 _ (ReflectliteType.method ReflectliteType.elem) Tryz.func344 (by kernel_rfl) (by kernel_rfl) (by kernel_rfl) (by kernel_rfl)
  have h38 := @run_callFunc_extern Tryz.prog 345 _ (ReflectliteType.relation "Implements" ReflectliteType.implements_) Tryz.func345 (by kernel_rfl) (by kernel_rfl) (by kernel_rfl) (by kernel_rfl)
  have h10 := @run_callFunc_extern Tryz.prog 94 _ ReflectliteType.typeOf Tryz.func94 (by kernel_rfl) (by kernel_rfl) (by kernel_rfl) (by kernel_rfl)
  have h35 := @run_callFunc_extern Tryz.prog 342 _ (ReflectliteType.relation "AssignableTo" ReflectliteType.assignableTo) Tryz.func342 (by kernel_rfl) (by kernel_rfl) (by kernel_rfl) (by kernel_rfl)
  have h11 := @run_callFunc_extern Tryz.prog 95 _ (ReflectliteValue.method (ReflectliteValue.valueError "reflectlite.Value.Elem" 0) ReflectliteValue.elem) Tryz.func95 (by kernel_rfl) (by kernel_rfl) (by kernel_rfl) (by kernel_rfl)
  have h12 := @run_callFunc_extern Tryz.prog 96 _ ReflectliteValue.set Tryz.func96 (by kernel_rfl) (by kernel_rfl) (by kernel_rfl) (by kernel_rfl)
  have tO := Fs.typeOf72
  have mA := Fs.methodAssignableTo
  have a25 := Fs.assignable72
  have v25 := Fs.valueOf72
  have f6 := Fs.valueOf74
  have f7 := Fs.type74
  have mK := Fs.methodKind
  have mE := Fs.methodElem
  have mI := Fs.methodImplements
  have k27 := Fs.kind74
  have k25 := Fs.kind72
  have e27 := Fs.elem74
  have i25 := Fs.implements72
  have n8 := Fs.isNil74 ⟨w.heap.size, 0, none⟩ ⟨tb, o, none⟩ ((w.alloc (.cells #[.pointer (some ⟨tb, o, none⟩)] 74)).alloc (.cells #[.pointer (some ⟨12, 74, none⟩), .pointer (some ⟨w.heap.size, 0, none⟩), .int .u64 150] 107)) (by simp)
  have hlt : 0 < w.heap.size := by
    rcases Nat.eq_zero_or_pos w.heap.size with h0 | h
    · simp [World.cell?, h0] at hg
    · exact h
  have hg2 : ((w.alloc (.cells #[.pointer (some ⟨tb, o, none⟩)] 74)).alloc (.cells #[.pointer (some ⟨12, 74, none⟩), .pointer (some ⟨w.heap.size, 0, none⟩), .int .u64 150] 107)).cell? ⟨0, 0, none⟩ = some (.iface 202 (.agg #[.pointer (some ⟨12, 69, none⟩)])) := by
    rw [World.cell?_alloc_lt _ _ ⟨0, 0, none⟩ (by simp), World.cell?_alloc_lt _ _ ⟨0, 0, none⟩ hlt]; exact hg
  have htl : tb < w.heap.size := by
    rcases Nat.lt_or_ge tb w.heap.size with h | h
    · exact h
    · simp [World.cell?, Array.getElem?_eq_none h] at ht0
  have el := Fs.elemV74 ⟨w.heap.size, 0, none⟩ ⟨tb, o, none⟩ (((w.alloc (.cells #[.pointer (some ⟨tb, o, none⟩)] 74)).alloc (.cells #[.pointer (some ⟨12, 74, none⟩), .pointer (some ⟨w.heap.size, 0, none⟩), .int .u64 150] 107)).alloc (.cells #[.pointer (some ⟨12, 74, none⟩), .pointer (some ⟨w.heap.size, 0, none⟩), .int .u64 150] 107)) (by rw [World.cell?_alloc_lt _ _ ⟨w.heap.size, 0, none⟩ (by simp; omega)]; simp)
  have st := Fs.set72 tb o (w.heap.size + 1 + 1 + 1) x y old0 old1 ((((w.alloc (.cells #[.pointer (some ⟨tb, o, none⟩)] 74)).alloc (.cells #[.pointer (some ⟨12, 74, none⟩), .pointer (some ⟨w.heap.size, 0, none⟩), .int .u64 150] 107)).alloc (.cells #[.pointer (some ⟨12, 74, none⟩), .pointer (some ⟨w.heap.size, 0, none⟩), .int .u64 150] 107)).alloc (.cells #[.int .i64 x, .int .i64 y] 72))
    (by rw [World.cell?_alloc_at _ _ _ _ (by simp)]; rfl) (by rw [World.cell?_alloc_at _ _ _ _ (by simp)]; rfl)
    (by rw [World.cell?_alloc_lt _ _ ⟨tb, o, none⟩ (by simp; omega), World.cell?_alloc_lt _ _ ⟨tb, o, none⟩ (by simp; omega), World.cell?_alloc_lt _ _ ⟨tb, o, none⟩ (by simp; omega), World.cell?_alloc_lt _ _ ⟨tb, o, none⟩ htl]; exact ht0)
    (by rw [World.cell?_alloc_lt _ _ ⟨tb, o + 1, none⟩ (by simp; omega), World.cell?_alloc_lt _ _ ⟨tb, o + 1, none⟩ (by simp; omega), World.cell?_alloc_lt _ _ ⟨tb, o + 1, none⟩ (by simp; omega), World.cell?_alloc_lt _ _ ⟨tb, o + 1, none⟩ htl]; exact ht1)
    (by rw [World.frozen?_alloc_old _ _ ⟨tb, o, none⟩ (by simp; omega), World.frozen?_alloc_old _ _ ⟨tb, o, none⟩ (by simp; omega), World.frozen?_alloc_old _ _ ⟨tb, o, none⟩ (by simp; omega), World.frozen?_alloc_old _ _ ⟨tb, o, none⟩ (Nat.ne_of_lt htl)]; exact hf0)
    (by rw [World.frozen?_alloc_old _ _ ⟨tb, o + 1, none⟩ (by simp; omega), World.frozen?_alloc_old _ _ ⟨tb, o + 1, none⟩ (by simp; omega), World.frozen?_alloc_old _ _ ⟨tb, o + 1, none⟩ (by simp; omega), World.frozen?_alloc_old _ _ ⟨tb, o + 1, none⟩ (Nat.ne_of_lt htl)]; exact hf1)
  go_enter Tryz.func13, Tryz.ntmps13
  go_wp2
  refine wp_loop_rounds 1 ?_
  rw [rounds_succ]
  go_wp2
  go_ret
  exact ⟨rfl, rfl⟩
end Go.Proofs.YthiaocbikmiciaaGreatDoor
