/- The machine that is run by the kernel, part 8: no claim of its own. -/
import Derived.Test.YthiaocbikmiciaaGreatDoorH7
namespace Go.Proofs.YthiaocbikmiciaaGreatDoor.H
section
variable {P : Program} {nG : Nat} {prim : Prims} {trk : Bool} {h h' : HS} {φ : Phi} {G : AMap} {w : World} {all : Array Oper} {tr : List Ev} {F F' : Fr}

theorem Ch.up {l : List Oper} (c : Ch P nG all l F h tr F' h') : h.next ≤ h'.next := by
  induction c with
  | nil => exact Nat.le_refl _
  | op _ _ _ _ hu _ ih => exact Nat.le_trans hu ih
  | skip _ _ _ ih => exact ih

/-- The region's operations, in the order of the text: what the records owe. -/
theorem Ch.logs {l : List Oper} (c : Ch P nG all l F h tr F' h') : ∀ (φ : Phi) (G : AMap) (w : World) (fr : Frame) (off : Nat), WF h → Rel P nG φ G w → Agree (trLog true tr) h G → Fresh φ G h h' → FrR φ F fr →
    l.all (okOp nG) = true → (∀ (j : Nat) (o : Oper), l[j]? = some o → all[off + j]? = some o) →
    WF h' ∧ ∀ j e, tr[j]? = some e → LogOK (some (e.r.t, e.r.w)) (trH tr h' j) (trH tr h' (j + 1)) ∧ WF (trH tr h' j) := by
  induction c with
  | nil F h => exact fun φ G w fr off hw _ _ _ _ _ _ => ⟨hw, fun j e he => by simp at he⟩
  | op h0 hg hp hs hu hr ih =>
    rename_i o rest F F1 F' h h1 h' v t u tr
    intro φ G w fr off hw hrel hag hfr hF hok hall
    have hsplit : trLog true (⟨⟨h.next, h1.next, t, u⟩, v, true, F, h⟩ :: tr) = Log.app (some (t, u)) (trLog true tr) := by simp [trLog, Log.app]
    rw [hsplit] at hag
    simp only [List.all_cons, Bool.and_eq_true] at hok
    have ho : all[off]? = some o := hall 0 o rfl
    have hup := hr.up
    obtain ⟨_, hgo⟩ := hg φ G w hw hrel (Agree.left (b := true) rfl rfl hag) (Fresh.left hup hfr)
    have ht := hF.todo [.inRegion all [off]]
    obtain ⟨ψ, w', v', q1, q2, q3⟩ := hgo { fr with todo := [.inRegion all [off]] } [] [] all off [] hF.mode rfl ho (by rw [wanted_rel ht.tmps, h0]) (fun x hx => eval_rel hrel ht.tmps (List.all_eq_true.1 hok.1 x (by simpa using hx)))
    have hF1 : FrR ψ F1 (Frame.put { fr with todo := [.inRegion all [off]] } o v' all [] []) := put_rel (ht.mono q1.le) hp q2
    obtain ⟨i1, i2⟩ := ih ψ _ w' _ (off + 1) (q1.wf hw) q1.rel (Agree.right (b := true) rfl rfl q1.log hag) (Fresh.right q1 (q1.wf hw) hfr) hF1 hok.2 (fun j o' e => by rw [show off + 1 + j = off + (j + 1) from by omega]; exact hall (j + 1) o' (by simpa using e))
    refine ⟨i1, fun j e he => ?_⟩
    have l2 := hr.link.2.1
    cases j with
    | zero =>
      simp only [List.getElem?_cons_zero, Option.some.injEq] at he
      subst he
      have a2 : trH (⟨⟨h.next, h1.next, t, u⟩, v, true, F, h⟩ :: tr) h' (0 + 1) = h1 := by rw [← l2]; simp [trH]
      rw [a2]
      exact ⟨q1.log, hw⟩
    | succ j =>
      simp only [List.getElem?_cons_succ] at he
      simpa [trH] using i2 j e he
  | skip h0 hp hr ih =>
    rename_i o rest F F1 F' h h' tr
    intro φ G w fr off hw hrel hag hfr hF hok hall
    simp only [List.all_cons, Bool.and_eq_true] at hok
    have hag' : Agree (trLog true tr) h G := by
      simpa [trLog] using hag
    have ht := hF.todo [.inRegion all [off]]
    have hF1 : FrR φ F1 (Frame.put { fr with todo := [.inRegion all [off]] } o undef all [] []) := put_rel ht hp VR.undef
    obtain ⟨i1, i2⟩ := ih φ G w _ (off + 1) hw hrel hag' hfr hF1 hok.2 (fun j o' e => by rw [show off + 1 + j = off + (j + 1) from by omega]; exact hall (j + 1) o' (by simpa using e))
    refine ⟨i1, fun j e he => ?_⟩
    have l2 := hr.link.2.1
    cases j with
    | zero =>
      simp only [List.getElem?_cons_zero, Option.some.injEq] at he
      subst he
      have a2 : trH (⟨⟨h.next, h.next, [], []⟩, undef, false, F, h⟩ :: tr) h' (0 + 1) = h := by rw [← l2]; simp [trH]
      rw [a2]
      exact ⟨⟨Nat.le_refl _, fun _ _ _ => rfl⟩, hw⟩
    | succ j =>
      simp only [List.getElem?_cons_succ] at he
      simpa [trH] using i2 j e he

theorem Ch.text (c : Ch P nG all all.toList F h tr F' h') {fr : Frame} (hw : WF h) (hr : Rel P nG φ G w) (ha : Agree (trLog true tr) h G) (hf : Fresh φ G h h') (hF : FrR φ F fr) (hok : all.toList.all (okOp nG) = true) :
    Text P nG all tr F F' h h' ∧ WF h' := by
  obtain ⟨l1, l2, l3⟩ := c.link
  have hl := c.length
  simp only [Array.length_toList] at hl
  obtain ⟨g1, g2⟩ := c.logs φ G w fr 0 hw hr ha hf hF hok (fun j o e => by simpa using e)
  refine ⟨⟨hl, l1, l2, ?_, ?_, fun j o e a b => l3 j o e (by simpa using a) b, g2⟩, g1⟩
  · simp [trF, ← hl]
  · simp [trH, ← hl]

theorem apartT_edge (h0 : apartT all = true) (j : Nat) (o : Oper) (e : Edge) (h1 : all[j]? = some o) (h2 : e ∈ o.after) (h3 : Region.binds .any e = true) : e.on < j := by
  unfold apartT at h0
  simp only [Bool.and_eq_true, List.all_eq_true] at h0
  have hm : (o, j) ∈ all.toList.zipIdx := by
    rw [List.mem_zipIdx_iff_getElem?]
    simpa using h1
  have := h0.1 (o, j) hm e (by simpa using h2)
  simp only [h3, Bool.not_true, Bool.false_or] at this
  simpa [Nat.blt_eq] using this

theorem Apart.mk' (h0 : apartT all = true) (h1 : indep all (tr.map (·.r)) = true) (hl : tr.length = all.size) : Apart all tr := by
  refine ⟨apartT_edge h0, fun i j x y hij hfr hx hy => ?_, fun i j x y hij hfr hx hy => ?_⟩
  · unfold apartT at h0
    simp only [Bool.and_eq_true, List.all_eq_true] at h0
    have := h0.2 j (List.mem_range.2 (Array.getElem?_eq_some_iff.1 hy).1) i (List.mem_range.2 hij)
    unfold Free at hfr
    simp only [hfr, hx, hy, Bool.false_or] at this
    exact this
  · unfold indep at h1
    simp only [List.all_eq_true] at h1
    have hj : j < all.size := by rw [← hl]; exact (List.getElem?_eq_some_iff.1 hy).1
    have := h1 j (List.mem_range.2 hj) i (List.mem_range.2 hij)
    unfold Free at hfr
    simp only [hfr, hx, hy, Bool.false_or, List.getElem?_map, Option.map_some] at this
    exact this

/-! ### Every order that may be drawn -/

theorem listed_all (hE : ∀ (j : Nat) (o : Oper) (e : Edge), all[j]? = some o → e ∈ o.after → Region.binds .any e = true → e.on < j) {listed : Array Bool} (hs : listed.size = all.size)
    (hn : Region.ready .any all listed = []) : ∀ j, j < all.size → Sl listed j := by
  intro j
  induction j using Nat.strongRecOn with
  | _ j ih =>
    intro hj
    refine Classical.byContradiction fun hc => ?_
    have hm : j ∈ Region.ready .any all listed := by
      rw [mem_ready]
      refine ⟨?_, all[j], by simp [hj], fun e he hb => ?_⟩
      · unfold Sl at hc
        have hjl : j < listed.size := by rw [hs]; exact hj
        simp only [Array.getD, hjl, dite_true] at hc ⊢
        simpa using hc
      · have hlt := hE j all[j] e (by simp [hj]) he hb
        exact ih e.on hlt (by omega)
    rw [hn] at hm; simp at hm

theorem DI.run {φ₀ : Phi} {G₀ : AMap} {w₀ : World} {cs : List Frame} {k : List Item}
    (T : Text P nG all tr F F' h h') (A : Apart all tr) (hok : all.toList.all (okOp nG) = true) (hnd : all.toList.all (fun o => noSel o && notDefer o.op) = true)
    (ha : ∀ e, e ∈ tr → ∀ id ∈ e.r.t, id < h.next → G₀ id = h.m.get id) (hf : Fresh φ₀ G₀ h h') :
    ∀ (fuel t : Nat) (listed : Array Bool) (φ : Phi) (fr : Frame) (w : World), DI P nG all tr F h' φ₀ G₀ w₀ listed φ fr w → (listed.toList.filter (!·)).length ≤ fuel →
      fr.todo = .inRegion all (Region.linearise.go .any all fuel t listed []) :: k →
      ∃ φ' fr' w' listed', DI P nG all tr F h' φ₀ G₀ w₀ listed' φ' fr' w' ∧ (∀ j, j < all.size → Sl listed' j) ∧ Steps P (lone fr cs w) (lone fr' cs w') ∧ fr'.todo = .inRegion all [] :: k := by
  intro fuel
  induction fuel with
  | zero =>
    intro t listed φ fr w I hc ht
    refine ⟨φ, fr, w, listed, I, fun j hj => ?_, .refl _ _, by simpa [Region.linearise.go] using ht⟩
    refine Classical.byContradiction fun hn => ?_
    have hjl : j < listed.size := by rw [I.size]; exact hj
    unfold Sl at hn
    simp only [Array.getD, hjl, dite_true, Bool.not_eq_true] at hn
    have : (false : Bool) ∈ listed.toList.filter (!·) := List.mem_filter.2 ⟨by rw [← hn]; exact Array.getElem_mem_toList .., rfl⟩
    have := List.length_pos_of_mem this
    omega
  | succ fuel ih =>
    intro t listed φ fr w I hc ht
    simp only [Region.linearise.go] at ht
    change fr.todo = .inRegion all (match (Region.ready .any all listed)[t % (Region.ready .any all listed).length]? with
      | some i => Region.linearise.go .any all fuel (t / (Region.ready .any all listed).length) (listed.setIfInBounds i true) [i]
      | none => [].reverse) :: k at ht
    cases hi : (Region.ready .any all listed)[t % (Region.ready .any all listed).length]? with
    | none =>
      have hnil : Region.ready .any all listed = [] := by
        cases hr : Region.ready .any all listed with
        | nil => rfl
        | cons x xs =>
          rw [hr] at hi
          have hlt : t % (x :: xs).length < (x :: xs).length := Nat.mod_lt _ (by simp)
          simp at hi
          simp at hlt
          omega
      rw [hi] at ht
      exact ⟨φ, fr, w, listed, I, listed_all A.edge I.size hnil, .refl _ _, by simpa using ht⟩
    | some i =>
      rw [hi] at ht
      simp only [] at ht
      rw [linearise_go_acc, List.reverse_singleton, List.singleton_append] at ht
      have hmem := List.mem_of_getElem? hi
      obtain ⟨φ', fr', w', I', s1, t1⟩ := I.step (cs := cs) T A hok hnd ha hf hmem ht
      have hcnt : ((listed.setIfInBounds i true).toList.filter (!·)).length ≤ fuel := by
        obtain ⟨hl0, o, ho, _⟩ := mem_ready.1 hmem
        have him : i < listed.size := by rw [I.size]; exact (Array.getElem?_eq_some_iff.1 ho).1
        simp only [Array.getD, him, dite_true] at hl0
        have key : ∀ (l : List Bool) (i : Nat) (hi : i < l.length), l[i] = false → ((l.set i true).filter (!·)).length + 1 = (l.filter (!·)).length := by
          intro l
          induction l with
          | nil => intro i hi; simp at hi
          | cons b l ih =>
            intro i hi hb
            cases i with
            | zero => simp only [List.getElem_cons_zero] at hb; subst hb; simp
            | succ i =>
              simp only [List.getElem_cons_succ] at hb
              have := ih i (by simpa using hi) hb
              cases b <;> simp [List.set_cons_succ, ← this]
        have := key listed.toList i (by simpa using him) (by simpa using hl0)
        rw [Array.toList_setIfInBounds]
        omega
      obtain ⟨φ'', fr'', w'', l'', a1, a2, a3, a4⟩ := ih _ _ φ' fr' w' I' hcnt t1
      exact ⟨φ'', fr'', w'', l'', a1, a2, s1.trans a3, a4⟩

end
end Go.Proofs.YthiaocbikmiciaaGreatDoor.H
namespace Go.Proofs.YthiaocbikmiciaaGreatDoor.H
section
variable {P : Program} {nG : Nat} {prim : Prims} {trk : Bool} {h h' : HS} {φ : Phi} {G : AMap} {w : World} {all : Array Oper} {tr : List Ev} {F F' : Fr}

theorem put_same {F F1 : Fr} {d : Option Tmp} {v : Value} (hp : F.put d v = some F1) : F1.n = F.n ∧ F1.fn = F.fn ∧ F1.round = F.round ∧ F1.defers = F.defers := by
  unfold Fr.put at hp
  cases d with
  | none => simp only [Option.some.injEq] at hp; subst hp; exact ⟨rfl, rfl, rfl, rfl⟩
  | some d =>
    simp only at hp
    cases hb : Nat.blt d F.n && Nat.blt d keyMax with
    | false => simp [hb] at hp
    | true => simp only [hb, cond_true, Option.some.injEq] at hp; subst hp; exact ⟨rfl, rfl, rfl, rfl⟩

theorem Ch.same {l : List Oper} (c : Ch P nG all l F h tr F' h') : F'.n = F.n ∧ F'.fn = F.fn ∧ F'.round = F.round ∧ F'.defers = F.defers := by
  induction c with
  | nil => exact ⟨rfl, rfl, rfl, rfl⟩
  | op _ _ hp _ _ _ ih =>
    obtain ⟨a1, a2, a3, a4⟩ := ih
    obtain ⟨b1, b2, b3, b4⟩ := put_same hp
    exact ⟨a1.trans b1, a2.trans b2, a3.trans b3, a4.trans b4⟩
  | skip _ hp _ ih =>
    obtain ⟨a1, a2, a3, a4⟩ := ih
    obtain ⟨b1, b2, b3, b4⟩ := put_same hp
    exact ⟨a1.trans b1, a2.trans b2, a3.trans b3, a4.trans b4⟩

theorem Text.cover (T : Text P nG all tr F F' h h') {id : Nat} : ∀ n, n ≤ all.size → h.next ≤ id → id < (trH tr h' n).next → ∃ i, i < n ∧ Wr tr h' i id := by
  intro n
  induction n with
  | zero => intro _ b1 b2; rw [T.h0] at b2; omega
  | succ n ih =>
    intro b1 b2 b3
    rcases Nat.lt_or_ge id (trH tr h' n).next with q2 | q2
    · obtain ⟨i, i1, i2⟩ := ih (by omega) b2 q2
      exact ⟨i, by omega, i2⟩
    · exact ⟨n, by omega, .inr ⟨q2, b3⟩⟩

theorem GS_none {id : Nat} : ∀ n, (∀ i, i < n → ¬ Wr tr h' i id) → GS tr h' G (fun _ => True) n id = G id := by
  intro n
  induction n with
  | zero => intro _; rfl
  | succ n ih =>
    intro hn
    simp only [GS]
    rw [if_neg (fun q => hn n (by omega) q.2), ih fun i hi => hn i (by omega)]

theorem Text.wr (T : Text P nG all tr F F' h h') {id : Nat} : (∃ i, i < all.size ∧ Wr tr h' i id) ↔ (id ∈ tr.flatMap (·.r.w) ∨ (h.next ≤ id ∧ id < h'.next)) := by
  constructor
  · rintro ⟨i, hi, ⟨e, e1, e2⟩ | hw⟩
    · exact .inl (List.mem_flatMap.2 ⟨e, List.mem_of_getElem? e1, e2⟩)
    · have m1 := T.mono (i := 0) (j := i) (by omega) (by omega)
      have m2 := T.mono (i := i + 1) (j := all.size) (by omega) (by omega)
      rw [T.h0] at m1
      rw [T.hm] at m2
      exact .inr (by omega)
  · rintro (hm | hm)
    · obtain ⟨e, e1, e2⟩ := List.mem_flatMap.1 hm
      obtain ⟨i, hi, he⟩ := List.getElem_of_mem e1
      exact ⟨i, by rw [← T.len]; exact hi, .inl ⟨e, by simp [hi, he], e2⟩⟩
    · exact T.cover all.size (Nat.le_refl _) hm.1 (by rw [T.hm]; exact hm.2)

theorem Text.upd (T : Text P nG all tr F F' h h') (ha : Agree (trLog trk tr) h G) : GS tr h' G (fun _ => True) all.size = Upd (trLog trk tr) h h' G := by
  funext id
  by_cases c : ∃ i, i < all.size ∧ Wr tr h' i id
  · rw [T.mem all.size (Nat.le_refl _) id (.inr c), T.hm]
    cases trk with
    | false => rfl
    | true => simp only [trLog, cond_true, Upd]; rw [if_pos (T.wr.1 c)]
  · cases trk with
    | false =>
      have hg : G id = h.m.get id := ha id
      rw [T.mem all.size (Nat.le_refl _) id (.inl hg), T.hm]; rfl
    | true =>
      rw [GS_none all.size fun i hi hw => c ⟨i, hi, hw⟩]
      simp only [trLog, cond_true, Upd]
      rw [if_neg (fun q => c (T.wr.2 q))]

theorem Text.logOK (T : Text P nG all tr F F' h h') : LogOK (trLog trk tr) h h' := by
  have key : ∀ n, n ≤ all.size → ∀ id, (∀ i, i < n → ¬ Wr tr h' i id) → (trH tr h' n).m.get id = h.m.get id := by
    intro n
    induction n with
    | zero => intro _ id _; rw [T.h0]
    | succ n ih =>
      intro hn id hno
      obtain ⟨o, ev, a1, a2, _⟩ := T.get (j := n) (by omega)
      have := (T.log n ev a2).1.2 id (fun e => hno n (by omega) (.inl ⟨ev, a2, e⟩)) (fun e => hno n (by omega) (.inr e))
      rw [this, ih (by omega) id fun i hi => hno i (by omega)]
  refine ⟨?_, ?_⟩
  · have := T.mono (i := 0) (j := all.size) (by omega) (by omega)
    rwa [T.h0, T.hm] at this
  · cases trk with
    | false => trivial
    | true =>
      intro id h1 h2
      rw [← T.hm]
      refine key all.size (Nat.le_refl _) id fun i hi hw => ?_
      rcases T.wr.1 ⟨i, hi, hw⟩ with q | q
      · exact h1 q
      · exact h2 q

theorem region_good (hmx : P.follows .mixedOrders = true) (c : Ch P nG all all.toList F h tr F' h') (hi : indep all (tr.map (·.r)) = true) (hA : apartT all = true)
    (hnd : all.toList.all (fun o => noSel o && notDefer o.op) = true) (rid : Nat) : Good P nG trk (.code (.region rid all true) F) h (.code .normal F') h' (trLog trk tr) := by
  intro φ G w hw hr ha hf
  refine ⟨by cases trk <;> rfl, fun hok fr k cs hF ht => ?_⟩
  have hok' : all.toList.all (okOp nG) = true := by simpa [okC] using hok
  have ha' : Agree (trLog true tr) h G := by
    cases trk with
    | true => exact ha
    | false => exact fun id _ _ => ha id
  obtain ⟨T, hwf⟩ := c.text hw hr ha' hf hF hok'
  have hl := c.length
  simp only [Array.length_toList] at hl
  have A : Apart all tr := .mk' hA hi hl
  have hsl0 : ∀ j, ¬ Sl (Array.replicate all.size false) j := by
    intro j
    unfold Sl
    rw [Array.getD_eq_getD_getElem?, Array.getElem?_replicate]
    split <;> simp
  have hg0 : GS tr h' G (Sl (Array.replicate all.size false)) all.size = G := by
    rw [GS_congr (S' := fun _ => False) all.size (fun j _ => ⟨fun q => hsl0 j q, fun q => q.elim⟩), GS_false]
  have ht0 : TS tr all F (Sl (Array.replicate all.size false)) all.size = fun d => (F.tmps.get d).getD undef := by
    rw [TS_congr (S' := fun _ => False) all.size (fun j _ => ⟨fun q => hsl0 j q, fun q => q.elim⟩), TS_false]
  have p0 := PostG.draw hr
  have s0 := st_region_draw (P := P) (cs := cs) (w := w) hF.mode ht
  simp only [Region.schedule, hmx, Bool.true_or, if_true, Region.linearise] at s0
  have I0 : DI P nG all tr F h' φ G w (Array.replicate all.size false) φ { fr with todo := .inRegion all (Region.linearise.go .any all all.size (w.tape w.drawn (.order fr.fn rid)) (Array.replicate all.size false) []) :: k } { w with drawn := w.drawn + 1 } := by
    refine ⟨by simp, fun j o e _ q => absurd q (hsl0 j), ?_, hF.tmps.1, fun d => ?_, hF.mode, hF.fn, hF.kind, hF.round, hF.defers⟩
    · rw [hg0]
      exact ⟨p0.le, fun id L a b => (p0.only id L a b).elim, p0.rel, p0.kept, p0.orig, p0.size, p0.tape, p0.os, p0.out⟩
    · rw [ht0]; exact hF.tmps.2 d
  have hagr : ∀ e, e ∈ tr → ∀ id ∈ e.r.t, id < h.next → G id = h.m.get id := fun e he id hid hlt => ha' id (List.mem_flatMap.2 ⟨e, he, hid⟩) hlt
  obtain ⟨φ', fr', w', l', I1, hall, s1, t1⟩ := I0.run (cs := cs) T A hok' hnd hagr hf all.size (w.tape w.drawn (.order fr.fn rid)) _ φ _ _ (by
    refine Nat.le_trans (List.length_filter_le _ _) ?_
    simp) rfl
  have s2 := st_region_end (P := P) (cs := cs) (w := w') I1.mode t1
  have hGS : GS tr h' G (Sl l') all.size = Upd (trLog trk tr) h h' G := by
    rw [GS_congr (S' := fun _ => True) all.size (fun j hj => ⟨fun _ => trivial, fun _ => hall j hj⟩)]
    exact T.upd ha
  have hTS : TS tr all F (Sl l') all.size = fun d => ((F'.tmps.get d).getD undef) := by
    rw [TS_congr (S' := fun _ => True) all.size (fun j hj => ⟨fun _ => trivial, fun _ => hall j hj⟩)]
    funext d
    rw [(T.tmp all.size (Nat.le_refl _) d).1, T.Fm]
  obtain ⟨e1, e2, e3, e4⟩ := c.same
  have p1 := I1.post
  rw [hGS] at p1
  refine ⟨φ', w', { fr' with todo := k }, ⟨p1.le, ?_, p1.rel, p1.kept, p1.orig, p1.size, p1.tape, p1.os, p1.out, T.logOK, fun _ => hwf⟩,
    ⟨⟨by rw [e1]; exact I1.tsize, fun d => ?_⟩, I1.mode, by rw [e2]; exact I1.fn, I1.kind, by rw [e3]; exact I1.round, by rw [e4]; exact I1.defers⟩, (Steps.head s0 s1).trans (.one s2), rfl⟩
  · intro id L a b
    obtain ⟨i, i1, _, i2, i3⟩ := p1.only id L a b
    have m1 := T.mono (i := 0) (j := i) (by omega) (by omega)
    have m2 := T.mono (i := i + 1) (j := all.size) (by omega) (by omega)
    rw [T.h0] at m1
    rw [T.hm] at m2
    omega
  · have := I1.tmps d
    rw [hTS] at this
    exact this

end
end Go.Proofs.YthiaocbikmiciaaGreatDoor.H
