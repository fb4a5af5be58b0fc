/- A part of the proof of one law's row. -/
import Derived.Test.YthiaocbikmiciaaGreatDoorYE
namespace Go.Proofs.YthiaocbikmiciaaGreatDoor
open Go.ChangeShapes Go.WideShapes Go.RowKit Go.ChangeAt

theorem rec25 : Tryz.prog.readableRec 25 = true := by kernel_rfl
theorem rec3 : Tryz.prog.readableRec 3 = true := by kernel_rfl

set_option maxRecDepth 100000 in
theorem witness (os : Os) (H : Type) (enc : TypeId × Value → H) :
    ∃ (w : World) (tape : Tape) (i : Input), w.os = os ∧ (w.forCall tape i).Shaped Tryz.checked.prog ∧ i.vars = [] ∧ Input.okWide Tryz.checked.prog (w.forCall tape i) .any w.heap.size 3 i ∧
      ((Rows.engineNilSpec.pre enc Tryz.checked.prog Tryz.f3 [] false (w.forCall tape i).memory i.args ∧ laidMetH Tryz.prog L (w.forCall tape i).memory) ∧ sizedMet enc Tryz.checked.prog Tryz.f3 (OpenSpec.ofChange Rows.engineNilSpec) false (w.forCall tape i).memory i.args) ∧
      ({} : Assume).holds Tryz.checked.prog (lone (Frame.enter Tryz.checked.prog 3 i.args .normal) [] (w.forCall tape i)) :=
  ChangeSpec.witness_shaped (enc := enc) (C := Tryz.checked) (os := os) (X := fun w _ => laidMetH Tryz.prog L w) false (witW os) #[c0, .int .i64 0] 8 (witW_os _)
    (World.shaped_of_ZipB (by kernel_rfl) (by kernel_rfl)) (by kernel_rfl) (by kernel_rfl) (by kernel_rfl) (wit_met os _)

theorem params3 : Tryz.f3.params = #[25, 3] := by kernel_rfl
theorem results3 : Tryz.f3.resultTypes = #[4] := by kernel_rfl

set_option maxRecDepth 100000 in
theorem lifted (os : Os) (started : os.Started) (H : Type) (enc : TypeId × Value → H) :
    ReturnsInHanded {} Tryz.checked os 3 .any (fun w args => (Rows.engineNilSpec.pre enc Tryz.prog Tryz.f3 [] false w args ∧ laidMetH Tryz.prog L w) ∧ sizedMet enc Tryz.prog Tryz.f3 (OpenSpec.ofChange Rows.engineNilSpec) false w args)
      (Rows.engineNilSpec.post enc Tryz.prog Tryz.f3 false true false false) := by
  refine handed_shaped (C := Tryz.checked) (X := fun w _ => laidMetH Tryz.prog L w) (fun _ _ _ hh h => h.of_heap hh) own started (by kernel_rfl) Tryz.func3 (witness os H enc) ?_
  intro W base args ds gs before hval0 hW hsh0 hL
  have hval : ∀ (j : Nat) t v, Tryz.f3.params[j]? = some t → args[j]? = some v → Value.okWide Tryz.prog W .any base t v := hval0
  have hsh : W.ShapedOpen Tryz.prog := hsh0
  have hlt := fun p hp => hW.lt p hp
  have hW' := hW
  obtain ⟨p, q, hA0, hV, rfl, _, _⟩ := hW
  have hA : DataW.TrodAll enc Tryz.prog W 0 (fun _ => true) true Tryz.f3.params.toList args.toList ds p := hA0
  rw [params3] at hA hval
  obtain ⟨v0, v1, d0, d1, p0, p1, rfl, rfl, rfl, h0, h1⟩ := trodAll_two hA
  obtain ⟨rfl, rfl⟩ := trodVars_none hV
  obtain ⟨cs, rfl, hcs, hpl⟩ := call_plain (hval 0 25 v0 rfl rfl)
  have hn : Plain v1 := by
    have h := hval 1 3 v1 rfl rfl
    unfold Value.okWide at h
    rw [Tryz.underlying3] at h
    exact cell_plain h (by rw [Tryz.underlying3]; simp)
  have hstart := start_of hL hsh
  refine (law_calls hstart hcs hpl hn).mono fun e W' ⟨he, hb⟩ => ⟨.bool true, he, ?_⟩
  refine ⟨_, _, _, [], p0 ++ p1, [], hW', ?_, ?_, rfl, hb.frame _, fun h => by cases h⟩
  · rw [results3]
    exact trodAll_mk1 (shut_bool Tryz.underlying4 true)
  · rw [params3]
    exact trodAll_mk2 (Below.trod laidOut rec25 (by rw [size]; decide) h0 hb (fun x hx => by simpa using hlt x (by simp [hx])))
      (Below.trod laidOut rec3 (by rw [size]; decide) h1 hb (fun x hx => by simpa using hlt x (by simp [hx])))

#print axioms lifted
end Go.Proofs.YthiaocbikmiciaaGreatDoor
