/- A part of the proof of one law's row. -/
import Derived.Test.YthiaocbikmiciaaGreatDoorYB
import Derived.KernelRfl
namespace Go.Proofs.YthiaocbikmiciaaGreatDoor
open H

theorem prims_eq {f : FuncId} {p : Bool → HS → Array Value → Option (Value × HS × Log)} (h : prims f = some p) : f = 13 ∧ p = asPrim := by
  unfold prims at h
  cases q : f.beq 13 with
  | false => rw [q] at h; cases h
  | true => rw [q] at h; cases h; exact ⟨Nat.eq_of_beq_eq_true q, rfl⟩

theorem as_up {trk : Bool} {h h' : HS} {args : Array Value} {v : Value} {ℓ : Log} (e : asPrim trk h args = some (v, h', ℓ)) : h.next ≤ h'.next ∧ ℓ.isSome = trk := by
  unfold asPrim at e
  split at e
  · cases e; exact ⟨Nat.le_refl _, Log.nil_isSome _⟩
  · split at e
    · rename_i x y l el cs ee _ _ _
      have kk : ∀ {b : Bool} {r : Option (Value × HS × Log)}, (bif b then r else none) = some (v, h', ℓ) → r = some (v, h', ℓ) := by
        intro b r q; cases b
        · cases q
        · exact q
      have e := kk e
      cases e
      exact ⟨Nat.le_refl _, Log.app_isSome (Log.rd_isSome _ _) (Log.wr_isSome _ _)⟩
    · cases e
  · cases e

theorem mixed : Tryz.prog.follows .mixedOrders = true := by kernel_rfl

theorem env : Env Tryz.prog 13 prims where
  mx := mixed
  pu := fun f p hp trk h args v h' ℓ e => by obtain ⟨_, rfl⟩ := prims_eq hp; exact (as_up e).1
  pl := fun f p hp trk h args v h' ℓ e => by obtain ⟨_, rfl⟩ := prims_eq hp; exact (as_up e).2
  ps := fun f p hp trk h args v h' ℓ e => by obtain ⟨rfl, rfl⟩ := prims_eq hp; exact run_as_eq (by decide) e

/-- Memory, when the call begins: errors.errorType alone is looked at. -/
def h0 : HS := ⟨Tr.leaf.put 0 (some (.cells [eT] 110 false)), 13⟩
/-- It is there at the end. -/
def still (h : HS) : Bool := match h.m.get 0 with
  | some (.cells l t false) => isET l && t.beq 110
  | _ => false
def isTrue : Res → Bool
  | some (.val (.bool true), h, _) => still h
  | _ => false

theorem isTrue_spec {r : Res} (h : isTrue r = true) : ∃ h' ℓ, r = some (.val (.bool true), h', ℓ) ∧ h'.m.get 0 = some (.cells [eT] 110 false) := by
  unfold isTrue at h
  split at h
  · rename_i h' ℓ
    refine ⟨h', ℓ, rfl, ?_⟩
    unfold still at h
    split at h
    · rename_i l t e
      simp only [Bool.and_eq_true] at h
      rw [e, isET_eq h.1, show t = 110 from Nat.eq_of_beq_eq_true h.2]
    · cases h
  · cases h

/-- A call of which nothing is known; a number of which nothing is known. -/
def args0 : Array Value := #[.agg (Array.replicate 15 (.chan Option.none)), .chan Option.none]

set_option maxRecDepth 100000 in
theorem law_runs : isTrue (hx Tryz.prog 13 prims 5000 false (.call 3 args0) h0) = true := by kernel_rfl

theorem good_of {n : Nat} {trk : Bool} {tk : Tk} {h h' : HS} {rs : Rs} {ℓ : Log} (e : hx Tryz.prog 13 prims n trk tk h = some (rs, h', ℓ)) : H.Good Tryz.prog 13 trk tk h rs h' ℓ := sound env n n (Nat.le_refl n) _ _ _ _ _ _ e

noncomputable def phi0 (_W : World) : Phi := fun g => if g < 13 then some ⟨g, 0, 1, Tryz.prog.cellsOf 110, false⟩ else none

theorem eT_VR {φ : Phi} {L : H.Loc} (h : φ 12 = some L) (h1 : L.blk = 12) (h2 : L.base = 0) {v : Value} : VR φ eT v ↔ v = eT := by
  constructor
  · intro q
    cases q with
    | iface _ q3 =>
    cases q3 with
    | agg q4 q5 =>
    rename_i ys
    have := q5 0 (by simp) (by rw [← q4]; simp)
    simp only [List.getElem_toArray, List.getElem_cons_zero] at this
    have hsz : ys.size = 1 := by rw [← q4]; rfl
    match ys, hsz with
    | ⟨[z]⟩, _ =>
      simp only [List.getElem_toArray, List.getElem_cons_zero] at this
      cases this with
      | pointer _ qq =>
        rw [h] at qq; cases qq
        rw [h1, h2]
  · rintro rfl
    refine .iface _ (.agg rfl fun i a b => ?_)
    have : i = 0 := by simp at a; omega
    subst this
    have := VR.pointer (φ := φ) (id := 12) 69 h
    rw [h1, h2] at this
    simpa using this

/-- What is known of the world when the call begins. -/
structure Start (W : World) : Prop where
  et : W.heap[0]? = some (.cells #[eT] 110 (0, 0))

theorem start_rel {W : World} (s : Start W) : Rel Tryz.prog 13 (phi0 W) (fun id => h0.m.get id) W where
  live := fun id o h => by
    have hg : h0.m.get id = if id = 0 then some (.cells [eT] 110 false) else none := Tr.get_put _ _ _ _ (by decide)
    rw [hg] at h
    by_cases c : id = 0
    · subst c
      simp only [if_true, Option.some.injEq] at h
      subst h
      refine ⟨⟨0, 0, 1, Tryz.prog.cellsOf 110, false⟩, _, by simp [phi0], s.et, #[eT], by with_reducible rfl, by simp, by with_reducible rfl, by with_reducible rfl, by simp, fun _ => ⟨by with_reducible rfl, by simp⟩, fun i a => ?_⟩
      have : i = 0 := by simp at a; omega
      subst this
      exact ⟨eT, rfl, (eT_VR (φ := phi0 W) (L := ⟨12, 0, 1, Tryz.prog.cellsOf 110, false⟩) rfl rfl rfl).2 rfl⟩
    · simp [c] at h
  inj := fun i j oi oj Li Lj h1 h2 _ _ _ => by
    have hg : ∀ id, h0.m.get id = if id = 0 then some (.cells [eT] 110 false) else none := fun id => Tr.get_put _ _ _ _ (by decide)
    rw [hg] at h1 h2
    by_cases c : i = 0
    · by_cases d : j = 0
      · omega
      · simp [d] at h2
    · simp [c] at h1
  glob := fun g hg => ⟨⟨g, 0, 1, Tryz.prog.cellsOf 110, false⟩, by simp [phi0, hg], rfl, rfl⟩

/-- One cell, and no truth value. -/
def Plain (v : Value) : Prop := v.oneCell' = true ∧ ∀ b, v ≠ .bool b

theorem args0_LR {φ : Phi} {cs : Array Value} {n : Value} (hs : cs.size = 15) (hc : ∀ v ∈ cs, Plain v) (hn : Plain n) : LR φ args0.toList (#[.agg cs, n] : Array Value).toList := by
  refine LR.cons (.agg (by simp [hs]) fun i a b => ?_) (LR.cons (.top hn.1 hn.2) LR.nil)
  have h := hc cs[i] (by simp)
  simp only [Array.getElem_replicate]
  exact .top h.1 h.2

/-- WHAT THE LAW COMES TO: true; and of what was there nothing has turned. -/
theorem law_calls {W : World} (s : Start W) {cs : Array Value} {n : Value} (hs : cs.size = 15) (hc : ∀ v ∈ cs, Plain v) (hn : Plain n) : Calls Tryz.prog 3 #[.agg cs, n] W fun e W' => e = .returned (.bool true) ∧ Go.RowKit.Below W.heap.size W W' := by
  obtain ⟨h', ℓ, e, hend⟩ := isTrue_spec law_runs
  generalize (5000 : Nat) = N at e
  have hl := hx_lg env.pl _ _ _ _ _ _ _ e
  obtain rfl : ℓ = none := by cases ℓ <;> simp_all
  have hwf : WF h0 := fun id hid => by
    have : h0.m.get id = if id = 0 then some (.cells [eT] 110 false) else none := Tr.get_put _ _ _ _ (by decide)
    rw [this, if_neg (by have : (13 : Nat) ≤ id := hid; omega)]
  have hfr : Fresh (phi0 W) (fun id => h0.m.get id) h0 h' := fun id hid _ => ⟨by
    have : (13 : Nat) ≤ id := hid
    simp [phi0]; omega, hwf id hid⟩
  have gg := good_of e
  obtain ⟨_, g⟩ := gg (phi0 W) (fun id => h0.m.get id) W hwf (start_rel s) (fun _ => rfl) hfr
  refine (g #[.agg cs, n] (args0_LR hs hc hn)).mono fun ev W' ⟨v', ψ, he, p, hv⟩ => ?_
  cases hv
  refine ⟨he, p.os, p.tape, p.out, p.size, fun k hk => ?_⟩
  by_cases c : k = 0
  · subst c
    have r := p.rel
    obtain ⟨L, ob, e1, e2, cs, e3, e4, e5, e6, e7, e8, e9⟩ := r.live 0 _ (show h'.m.get 0 = _ from hend)
    have hL : ψ 0 = some ⟨0, 0, 1, Tryz.prog.cellsOf 110, false⟩ := p.le _ _ rfl
    rw [hL] at e1; cases e1
    subst e3
    obtain ⟨v, q1, q2⟩ := e9 0 (by simp)
    have h12 : ψ 12 = some ⟨12, 0, 1, Tryz.prog.cellsOf 110, false⟩ := p.le _ _ rfl
    have hve : v = eT := (eT_VR h12 rfl rfl).1 q2
    subst hve
    have hcs : cs = #[eT] := by
      match cs, e4 with
      | ⟨[z]⟩, _ => simp at q1; subst q1; rfl
    rw [s.et]
    rw [hcs] at e2
    exact e2
  · refine p.kept k hk fun id o L h1 h2 => ?_
    have hg : h0.m.get id = if id = 0 then some (.cells [eT] 110 false) else none := Tr.get_put _ _ _ _ (by decide)
    rw [hg] at h1
    by_cases d : id = 0
    · subst d
      have : phi0 W 0 = some ⟨0, 0, 1, Tryz.prog.cellsOf 110, false⟩ := rfl
      rw [this] at h2; cases h2
      exact Ne.symm c
    · simp [d] at h1
#print axioms law_calls

end Go.Proofs.YthiaocbikmiciaaGreatDoor
