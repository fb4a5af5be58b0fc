/- A part of the proof of one law's row. -/
import Derived.Test.YthiaocbikmiciaaGreatDoorYC
import Derived.Test.YthiaocbikmiciaaGreatDoorRows
import Derived.ProofKit
import Derived.OpenShut
import Derived.LaidMore
import Derived.Lay
import Derived.LaidSub
import Derived.LaidHandle
import Derived.SevenTiedAt
import Derived.Stop.Joined
import Derived.Handed
import Derived.Carry
import Derived.ChangeVars
import Derived.JoinedOf
namespace Go.Proofs.YthiaocbikmiciaaGreatDoor
open Go.ChangeShapes Go.WideShapes Go.RowKit

/-- 'returnsInHanded_of_change_and', with the world's shape. -/
theorem handed_shaped {H : Type} {enc : TypeId × Value → H} {a : Assume} {C : Checked} {os : Os} {f : FuncId} {fn : Func} {s : ChangeSpec} {conds : List PathCond} {apart fresh handsOn again : Bool} {X : World → Array Value → Prop}
    (hX : ∀ (w w' : World) (args : Array Value), w.heap = w'.heap → X w args → X w' args)
    (own : ownKnob C.prog.godebug = none) (started : os.Started) (noInit : C.prog.inits.idxOf? f = none) (hfn : C.prog.funcs[f]? = some fn)
    (witness : ∃ (w : World) (tape : Tape) (i : Input), w.os = os ∧ (w.forCall tape i).Shaped C.prog ∧ i.vars = [] ∧ Input.okWide C.prog (w.forCall tape i) .any w.heap.size f i ∧
      ((s.pre enc C.prog fn conds apart (w.forCall tape i).memory i.args ∧ X (w.forCall tape i).memory i.args) ∧ sizedMet enc C.prog fn (OpenSpec.ofChange s) apart (w.forCall tape i).memory i.args) ∧ a.holds C.prog (lone (Frame.enter C.prog f i.args .normal) [] (w.forCall tape i)))
    (contract : ∀ (W : World) (base : Nat) (args : Array Value) (ds gs : List (DataW H)) (before : List MemPlace),
      (∀ (j : Nat) t v, fn.params[j]? = some t → args[j]? = some v → Value.okWide C.prog W .any base t v) →
      DataW.Whole enc C.prog fn.params.toList s.vars apart W args.toList ds gs before → W.ShapedOpen C.prog → X W args →
      Calls C.prog f args W fun e W' => ∃ v, e = .returned v ∧ s.post enc C.prog fn apart fresh handsOn again W args v W') :
    ReturnsInHanded a C os f .any (fun w args => (s.pre enc C.prog fn conds apart w args ∧ X w args) ∧ sizedMet enc C.prog fn (OpenSpec.ofChange s) apart w args) (s.post enc C.prog fn apart fresh handsOn again) := by
  refine returnsInHanded_of_calls own started noInit witness ?_
  intro w tape i _ hsh _ hok hpre hholds
  obtain ⟨_, _, _, fn', hfn', _, _, _, _, hval⟩ := hok
  have e : fn' = fn := Option.some.inj (hfn'.symm.trans hfn)
  subst e
  obtain ⟨⟨⟨ds, gs, before, hw, hc⟩, hx⟩, hz⟩ := hpre
  have hw' := DataW.Whole.of_heap (w' := w.forCall tape i) (by rfl) hw
  refine (contract (w.forCall tape i) w.heap.size i.args ds gs before hval hw' hsh (hX _ _ _ (by rfl) hx)).mono fun e W' ⟨v, he, hp⟩ => ?_
  subst he
  exact ChangeSpec.post_blind hp

theorem own : ownKnob Tryz.prog.godebug = none := by kernel_rfl
theorem et : Tryz.prog.globalNamed "errors.errorType" = some 0 := by kernel_rfl
theorem rt : (Tryz.prog.cutTypes.find? (·.1 == "internal/reflectlite.rtype")).map (·.2) = some 202 := by kernel_rfl
theorem oneRow : ((List.range 490).filter fun t => Tryz.prog.rowNamed t [101, 114, 114, 111, 114]) = [69] := by kernel_rfl
theorem size : Tryz.prog.types.size = 490 := by kernel_rfl
theorem laidOut : laidOutB Tryz.prog = true := by kernel_rfl
theorem row0 : (((begin Tryz.prog (fun _ _ => 0) default).world.heap[0]?).bind Obj.row?).map (fun x => (x.1.size, x.2)) = some (1, 110) := by kernel_rfl
theorem nGlobals : Tryz.prog.globals.size = 12 := by kernel_rfl
theorem cells25 : Tryz.prog.cellsOf 25 = 15 := by kernel_rfl
theorem noBool : (((Tryz.prog.cellTypes Tryz.prog.depth 25).getD []).all fun u => match Tryz.prog.underlying u with | some .bool => false | _ => true) = true := by kernel_rfl

abbrev L : List (String × DataW Unit) := Rows.engineNilRow.laid

set_option maxRecDepth 100000 in
/-- WHAT THE CONDITION GIVES: the variable's block. -/
theorem start_of {W : World} (h : laidMetH Tryz.prog L W) (hs : W.ShapedOpen Tryz.prog) : Start W := by
  have h' := (laidMetH_iff.1 h).2
  have hmem : ("errors.errorType", Rows.laid_errors_errorType (H := Unit)) ∈ L.filter fun x => x.2.handleName?.isSome := List.mem_filter.2 ⟨List.mem_of_getElem? (i := 9) rfl, rfl⟩
  obtain ⟨name, u, ty, e1, e2, e3, e4, e5⟩ := h' _ hmem
  have en : name = [101, 114, 114, 111, 114] := (Option.some.inj e1).symm
  subst en
  obtain rfl := Option.some.inj (rt.symm.trans e2)
  have hm : ty ∈ (List.range 490).filter fun t => Tryz.prog.rowNamed t [101, 114, 114, 111, 114] := List.mem_filter.2 ⟨List.mem_range.2 (by rw [← size]; exact e3), e4⟩
  rw [oneRow] at hm
  obtain rfl := List.mem_singleton.1 hm
  have hh : typeHandle Tryz.prog 69 = .pointer (some ⟨12, 69, Option.none⟩) := by kernel_rfl
  rw [hh] at e5
  have r0 := row0
  cases hr : ((begin Tryz.prog (fun _ _ => 0) default).world.heap[0]?).bind Obj.row? with
  | none => rw [hr] at r0; cases r0
  | some x =>
    obtain ⟨zero, t⟩ := x
    rw [hr] at r0
    simp only [Option.map_some, Option.some.injEq, Prod.mk.injEq] at r0
    obtain ⟨_, rfl⟩ := r0
    obtain ⟨cs, q1, _⟩ := hs.1 0 zero 110 (by rw [nGlobals]; decide) hr
    unfold World.var? at e5
    simp only [et, Option.bind_some, q1, Option.some.injEq] at e5
    exact ⟨by rw [q1, e5]⟩

set_option maxRecDepth 100000 in
theorem cell_plain {P : Program} {W : World} {b : Nat} {u : TypeId} {v : Value} (h : Cell.okWide P W .any b u v) (hu : P.underlying u ≠ some .bool) : Plain v := by
  refine ⟨?_, ?_⟩
  · cases v with
    | agg cs => simp only [Cell.okWide, Cell.ok] at h; cases hq : P.underlying u with
      | none => simp [hq] at h
      | some d => cases d <;> simp [hq] at h
    | tuple cs => simp only [Cell.okWide, Cell.ok] at h; cases hq : P.underlying u with
      | none => simp [hq] at h
      | some d => cases d <;> simp [hq] at h
    | _ => rfl
  · rintro x rfl
    simp only [Cell.okWide, Cell.ok] at h; cases hq : P.underlying u with
      | none => simp [hq] at h
      | some d => cases d <;> simp [hq] at h hu

set_option maxRecDepth 100000 in
theorem call_plain {W : World} {b : Nat} {v : Value} (h : Value.okWide Tryz.prog W .any b 25 v) : ∃ cs : Array Value, v = .agg cs ∧ cs.size = 15 ∧ ∀ x ∈ cs, Plain x := by
  have h' : ∃ cs, v = .agg cs ∧ cs.size = Tryz.prog.cellsOf 25 ∧ Row.okWide Tryz.prog W .any b 25 cs := by
    unfold Value.okWide at h
    rw [Tryz.underlying25] at h
    exact h
  obtain ⟨cs, rfl, hs, ts, ht, _, hc⟩ := h'
  refine ⟨cs, rfl, hs.trans cells25, fun x hx => ?_⟩
  obtain ⟨i, hi, rfl⟩ := Array.getElem_of_mem hx
  obtain ⟨u, hu, hk⟩ := hc i cs[i] (by simp [hi])
  have nb := noBool
  rw [ht] at nb
  simp only [Option.getD_some, List.all_eq_true] at nb
  have := nb u (List.mem_of_getElem? hu)
  exact cell_plain hk (fun q => by rw [q] at this; cases this)

end Go.Proofs.YthiaocbikmiciaaGreatDoor
