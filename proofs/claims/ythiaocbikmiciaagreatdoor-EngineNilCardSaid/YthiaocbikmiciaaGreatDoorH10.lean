/- The machine that is run by the kernel, part 10: no claim of its own. -/
import Derived.Test.YthiaocbikmiciaaGreatDoorH9
namespace Go.Proofs.YthiaocbikmiciaaGreatDoor.H
section
variable {P : Program} {nG : Nat} {prim : Prims} {trk : Bool} {h h' : HS} {φ : Phi} {G : AMap} {w : World} {rs : Rs} {ℓ : Log} {F : Fr}

/-- What a frame keeps. -/
def Sm (F F' : Fr) : Prop := F'.n = F.n ∧ F'.fn = F.fn ∧ F'.round = F.round
theorem Sm.refl (F : Fr) : Sm F F := ⟨rfl, rfl, rfl⟩
theorem Sm.trans {F F1 F2 : Fr} (a : Sm F F1) (b : Sm F1 F2) : Sm F F2 := ⟨b.1.trans a.1, b.2.1.trans a.2.1, b.2.2.trans a.2.2⟩
theorem put_sm {F F1 : Fr} {d : Option Tmp} {v : Value} (hp : F.put d v = some F1) : Sm F F1 := let ⟨a, b, c, _⟩ := put_same hp; ⟨a, b, c⟩

def SameT : Tk → Rs → Prop
  | .code _ F, .code _ F' => Sm F F'
  | .ops _ _ F, .code _ F' => Sm F F'
  | .drw _ _ F _, .recs _ F' => Sm F F'
  | _, _ => True

theorem hx_same : ∀ (n : Nat) (trk : Bool) (tk : Tk) (h : HS) (rs : Rs) (h' : HS) (ℓ : Log), hx P nG prim n trk tk h = some (rs, h', ℓ) → SameT tk rs := by
  intro n
  induction n with
  | zero => intro trk tk h rs h' ℓ e; simp [hx] at e
  | succ n ih =>
    intro trk tk h rs h' ℓ e
    cases tk with
    | op o F => cases rs <;> exact True.intro
    | call f args => cases rs <;> exact True.intro
    | round id F a b => cases rs <;> exact True.intro
    | ops l all F =>
      cases rs with
      | val => exact True.intro
      | recs => exact True.intro
      | code x F' =>
      cases l with
      | nil => simp only [hx] at e; cases e; exact Sm.refl _
      | cons o rest =>
        simp only [hx] at e
        cases hw : F.wanted all o with
        | true =>
          simp only [hw, cond_true] at e
          split at e
          · split at e
            · rename_i hp
              obtain ⟨l', e1, rfl⟩ := pre_some e
              exact (put_sm hp).trans (ih _ _ _ _ _ _ e1)
            · cases e
          · cases e
        | false =>
          simp only [hw, cond_false] at e
          split at e
          · rename_i hp
            exact (put_sm hp).trans (ih _ _ _ _ _ _ e)
          · cases e
    | drw l all F acc =>
      cases rs with
      | val => exact True.intro
      | code => exact True.intro
      | recs rr F' =>
      cases l with
      | nil =>
        simp only [hx] at e
        cases hi : indep all acc.reverse <;> simp [hi] at e
        obtain ⟨⟨_, rfl⟩, _, _⟩ := e
        exact Sm.refl _
      | cons o rest =>
        simp only [hx] at e
        cases hw : F.wanted all o with
        | true =>
          simp only [hw, cond_true] at e
          split at e
          · split at e
            · rename_i hp
              have kk : ∀ {b : Bool} {r : Res}, (bif b then r else none) = some (Rs.recs rr F', h', ℓ) → r = some (Rs.recs rr F', h', ℓ) := by
                intro b r q; cases b
                · cases q
                · exact q
              have e := kk e
              obtain ⟨l', e2, rfl⟩ := pre_some e
              exact (put_sm hp).trans (ih _ _ _ _ _ _ e2)
            · cases e
          · cases e
        | false =>
          simp only [hw, cond_false] at e
          split at e
          · rename_i hp
            obtain ⟨l', e1, rfl⟩ := pre_some e
            exact (put_sm hp).trans (ih _ _ _ _ _ _ e1)
          · cases e
    | code c F =>
      cases rs with
      | val => exact True.intro
      | recs => exact True.intro
      | code x F' =>
      cases c <;> simp only [hx] at e
      case skip => cases e; exact Sm.refl _
      case label => cases e; exact Sm.refl _
      case exit => cases e; exact Sm.refl _
      case ret => cases e; exact Sm.refl _
      case seq a b =>
        cases h1 : hx P nG prim n trk (.code a F) h with
        | none => simp [h1] at e
        | some y =>
          obtain ⟨y, s, l⟩ := y
          have u := ih _ _ _ _ _ _ h1
          simp only [h1] at e
          split at e
          · rename_i q
            cases q
            obtain ⟨l', e1, rfl⟩ := pre_some e
            exact Sm.trans u (ih _ _ _ _ _ _ e1)
          · cases e; exact u
      case cond c a b =>
        split at e
        · have q := ih _ _ _ _ _ _ e; exact q
        · cases e
      case block id c =>
        cases h1 : hx P nG prim n trk (.code c F) h with
        | none => simp [h1] at e
        | some y =>
          obtain ⟨y, s, l⟩ := y
          have u := ih _ _ _ _ _ _ h1
          simp only [h1] at e
          split at e
          · rename_i q
            cases q
            cases e; exact u
          · cases e; exact u
      case loop c =>
        cases h1 : hx P nG prim n trk (.code c F) h with
        | none => simp [h1] at e
        | some y =>
          obtain ⟨y, s, l⟩ := y
          have u := ih _ _ _ _ _ _ h1
          simp only [h1] at e
          split at e
          · rename_i q
            cases q
            obtain ⟨l', e1, rfl⟩ := pre_some e
            exact Sm.trans u (ih _ _ _ _ _ _ e1)
          · cases e; exact u
      case scope c => have q := ih _ _ _ _ _ _ e; exact q
      case region id ops d =>
        cases d <;> simp only at e
        · have q := ih _ _ _ _ _ _ e; exact q
        · cases hb : apartT ops && hx.noSelA ops <;> simp only [hb, cond_true, cond_false] at e
          · cases e
          · cases h1 : hx P nG prim n trk (.drw ops.toList ops F []) h with
            | none => simp [h1] at e
            | some y =>
              obtain ⟨y, s, l⟩ := y
              have u := ih _ _ _ _ _ _ h1
              simp only [h1] at e
              split at e
              · rename_i q
                cases q
                cases e; exact u
              · cases e
      case rangeFunc f ps a b =>
        split at e
        · rename_i g first cap _
          cases hq : enterOK P g <;> rw [hq] at e
          · cases e
          · simp only [cond_true] at e
            split at e
            · split at e
              · split at e
                · cases e
                  exact ⟨rfl, rfl, rfl⟩
                · cases e
              · cases e
            · cases e
        · cases e
      all_goals cases e

/-- An abstract block is turned, and the concrete one with it. -/
theorem hset_post {l : Nat} {o o₀ : AObj} {ob : Obj} {L : Loc} {h1 : HS} (e : hset trk h l o = some (h1, ℓ)) (r : Rel P nG φ G w) (hwf : WF h) (a : Agree ℓ h G) (hg : h.m.get l = some o₀)
    (hφ : φ l = some L) (hlt : L.blk < w.heap.size) (hO : OR P nG φ L o ob) : Post P nG ℓ h h1 φ G w φ (w.putObj L.blk ob) := by
  unfold hset at e
  cases q : Nat.blt l keyMax with
  | false => simp [q] at e
  | true =>
    simp only [q, cond_true, Option.some.injEq, Prod.mk.injEq] at e
    obtain ⟨rfl, rfl⟩ := e
    exact Post.turn (by simpa [Nat.blt_eq] using q) r hwf a hg hφ World.putObj_size (fun b hb => World.putObj_heap_other hb) (World.putObj_heap_same hlt) rfl rfl rfl hO

theorem hset_log {l : Nat} {o : AObj} {h1 : HS} (e : hset trk h l o = some (h1, ℓ)) : ℓ = Log.wr trk [l] := by
  unfold hset at e
  cases q : Nat.blt l keyMax with
  | false => simp [q] at e
  | true => simp only [q, cond_true, Option.some.injEq, Prod.mk.injEq] at e; exact e.2.symm

theorem hloop_get {l : Nat} {r : ALoop} (e : hloop h l = some r) : h.m.get l = some (.loop r) := by
  unfold hloop at e
  split at e
  · cases e; assumption
  · cases e

/-- A loop's record, where one is. -/
theorem rel_loop (r : Rel P nG φ G w) {l : Nat} {lp : ALoop} {L : Loc} (hG : G l = some (.loop lp)) (hφ : φ l = some L) :
    L.blk < w.heap.size ∧ ∃ (l' : Loop) (D : Loc), w.heap[L.blk]? = some (.loop l') ∧ l'.state = lp.state ∧ l'.pending = lp.pending ∧ l'.fn = lp.fn ∧ TR φ lp.ntmps lp.tmps l'.tmps ∧ l'.params = lp.params ∧
      l'.assign = lp.assign ∧ l'.body = lp.body ∧ φ lp.dfr = some D ∧ l'.defers = D.blk ∧ okC nG lp.assign = true ∧ okC nG lp.body = true := by
  obtain ⟨M, ob, e1, e2, l', D, e3, rest⟩ := r.live l _ hG
  rw [hφ] at e1; cases e1
  subst e3
  exact ⟨(Array.getElem?_eq_some_iff.1 e2).1, l', D, e2, rest⟩

theorem begin_post {l : Nat} {L : Loc} {h1 : HS} (e : hbegin trk h l = some (h1, ℓ)) (r : Rel P nG φ G w) (hwf : WF h) (a : Agree ℓ h G) (hφ : φ l = some L) :
    ∃ w', (Instr.beginRound L.blk).run P w = .ok () w' ∧ Post P nG ℓ h h1 φ G w φ w' := by
  unfold hbegin at e
  cases hl : hloop h l with
  | none => simp [hl] at e
  | some lp =>
    simp only [hl] at e
    split at e
    · rename_i hs
      have hg := hloop_get hl
      have hlog := hset_log e
      subst hlog
      obtain ⟨hlt, l', D, e2, e3, e4, e5, e6, e7, e8, e9, e10, e11, e12, e13⟩ := rel_loop r (a.wr_get hwf hg) hφ
      refine ⟨_, run_beginRound e2 (e3.trans hs), hset_post e r hwf a hg hφ hlt ?_⟩
      exact ⟨_, D, rfl, rfl, e4, e5, e6, e7, e8, e9, e10, e11, e12, e13⟩
    · cases e

theorem end_post {l : Nat} {L : Loc} {j : Option Code} {h1 : HS} (e : hend trk h l j = some (h1, ℓ)) (r : Rel P nG φ G w) (hwf : WF h) (a : Agree ℓ h G) (hφ : φ l = some L) :
    ∃ w', (Instr.endRound L.blk j).run P w = .ok (.bool j.isNone) w' ∧ Post P nG ℓ h h1 φ G w φ w' := by
  unfold hend at e
  cases hl : hloop h l with
  | none => simp [hl] at e
  | some lp =>
    simp only [hl] at e
    have hg := hloop_get hl
    have hlog := hset_log e
    subst hlog
    obtain ⟨hlt, l', D, e2, e3, e4, e5, e6, e7, e8, e9, e10, e11, e12, e13⟩ := rel_loop r (a.wr_get hwf hg) hφ
    refine ⟨_, run_endRound j e2, hset_post e r hwf a hg hφ hlt ?_⟩
    exact ⟨_, D, rfl, rfl, rfl, e5, e6, e7, e8, e9, e10, e11, e12, e13⟩

theorem endLoop_post {l : Nat} {L : Loc} {x : HX} {h1 : HS} (e : hendLoop trk h l = some (x, h1, ℓ)) (r : Rel P nG φ G w) (hwf : WF h) (a : Agree ℓ h G) (hφ : φ l = some L) :
    ∃ w' j, (Instr.endLoop L.blk).run P w = .ok j w' ∧ backOf j = some x ∧ Post P nG ℓ h h1 φ G w φ w' := by
  unfold hendLoop at e
  cases hl : hloop h l with
  | none => simp [hl] at e
  | some lp =>
    simp only [hl] at e
    cases hb : isBusy lp.state with
    | true => simp [hb] at e
    | false =>
      simp only [hb, cond_false] at e
      split at e
      · rename_i x' h1' l1 e1 e2
        cases e
        have hg := hloop_get hl
        have hlog := hset_log e2
        subst hlog
        obtain ⟨hlt, l', D, q2, q3, q4, q5, q6, q7, q8, q9, q10, q11, q12, q13⟩ := rel_loop r (a.wr_get hwf hg) hφ
        refine ⟨_, l'.pending, run_endLoop q2 ?_, by rw [q4]; exact e1, hset_post e2 r hwf a hg hφ hlt ?_⟩
        · rw [q3]; intro q; rw [q] at hb; cases hb
        · exact ⟨_, D, rfl, rfl, q4, q5, q6, q7, q8, q9, q10, q11, q12, q13⟩
      · cases e

theorem sound_round (E : Env P nG prim) {n : Nat} (ih : IH P nG prim n) {id : Nat} {a b : Code} (e : hx P nG prim (n + 1) trk (.round id F a b) h = some (rs, h', ℓ)) : Good P nG trk (.round id F a b) h rs h' ℓ := by
  have elg := hx_lg E.pl _ _ _ _ _ _ _ e
  cases rs with
  | code => exact fun _ _ _ _ _ _ _ => ⟨elg, trivial⟩
  | recs => exact fun _ _ _ _ _ _ _ => ⟨elg, trivial⟩
  | val v =>
  intro φ G w hw hr ha hf
  refine ⟨elg, fun oa ob L c cs tmps' hL htr => ?_⟩
  simp only [hx] at e
  split at e
  · rename_i F1 h1 l1 e1
    split at e
    · rename_i h2 l2 e2
      split at e
      · rename_i x F2 h3 l3 e3
        split at e
        · rename_i h4 l4 e4
          cases e
          have s1 := hx_lg E.pl _ _ _ _ _ _ _ e1
          have s2 := hbegin_lg e2
          have s3 := hx_lg E.pl _ _ _ _ _ _ _ e3
          have s4 := hend_lg e4
          have u2 := hbegin_next e2
          have u3 := hx_up E.pu _ _ _ _ _ _ _ e3
          have u4 := hend_next e4
          have m1 := hx_same _ _ _ _ _ _ _ e1
          have m3 := hx_same _ _ _ _ _ _ _ e3
          have s12 := Log.app_isSome s1 s2
          have s123 := Log.app_isSome s12 s3
          have a123 := Agree.left s123 s4 ha
          have a12 := Agree.left s12 s3 a123
          have a1 := Agree.left s1 s2 a12
          obtain ⟨_, g1⟩ := ih _ (Nat.le_refl _) _ _ _ _ _ _ e1 φ G w hw hr a1 (Fresh.left (by omega) hf)
          have hF0 : FrR φ { F with round := some id, defers := [] } (Frame.round L.blk F.fn tmps' a b .normal) := ⟨htr, rfl, rfl, rfl, ⟨L, hL, rfl⟩, rfl⟩
          obtain ⟨ψ, w1, fr1, p1, hF1, t1, z1⟩ := g1 oa _ [.beginRound, .code b] (c :: cs) hF0 rfl
          have hL1 : ψ id = some L := p1.le _ _ hL
          obtain ⟨w2, r2, p2⟩ := begin_post e2 p1.rel (p1.wf hw) (Agree.right s1 s2 p1.log a12) hL1
          have hro : fr1.roundOf = some L.blk := by
            have := hF1.round
            rw [m1.2.2] at this
            obtain ⟨L', q1, q2⟩ := this
            rw [hL1] at q1; cases q1; exact q2
          have p12 := Post.trans s1 s2 p1 p2
          obtain ⟨_, g3⟩ := ih _ (Nat.le_refl _) _ _ _ _ _ _ e3 ψ _ w2 (p12.wf hw) p12.rel (Agree.right s12 s3 p12.log a123) (Fresh.right p12 (p12.wf hw) (Fresh.left (by omega) hf))
          obtain ⟨χ, w3, fr3, p3, hF3, t3, z3⟩ := g3 ob { fr1 with todo := [.code b] } [] (c :: cs) (hF1.todo _) rfl
          have p123 := Post.trans s12 s3 p12 p3
          have hL3 : χ id = some L := p3.le _ _ hL1
          obtain ⟨w4, r4, p4⟩ := end_post e4 p123.rel (p123.wf hw) (Agree.right s123 s4 p123.log ha) hL3
          have hro3 : fr3.roundOf = some L.blk := by
            have := hF3.round
            rw [m3.2.2, m1.2.2] at this
            obtain ⟨L', q1, q2⟩ := this
            rw [hL3] at q1; cases q1; exact q2
          refine ⟨χ, w4, .bool (jumpOf x).isNone, Post.trans s123 s4 p123 p4, VR.bool _, t1.trans (Steps.head (st_beginRound hF1.mode z1 hro r2) (t3.trans (.one (st_endRound hF3.mode rfl hro3 hF3.kind ?_ r4))))⟩
          cases x with
          | normal => exact .inl ⟨z3, rfl⟩
          | exit i => obtain ⟨k2, q1, q2⟩ := z3; exact .inr (.inr ⟨k2, i, q1, by rw [q2]; rfl, rfl⟩)
          | ret => obtain ⟨k2, q1⟩ := z3; exact .inr (.inl ⟨k2, q1, rfl⟩)
        · cases e
      · cases e
    · cases e
  · cases e

end
end Go.Proofs.YthiaocbikmiciaaGreatDoor.H
namespace Go.Proofs.YthiaocbikmiciaaGreatDoor.H
section
variable {P : Program} {nG : Nat} {prim : Prims} {trk : Bool} {h h' : HS} {φ : Phi} {G : AMap} {w : World} {rs : Rs} {ℓ : Log} {F : Fr}

theorem DsR.append {a b a' b' : List Deferred} (h1 : DsR φ a a') (h2 : DsR φ b b') : DsR φ (a ++ b) (a' ++ b') := by
  induction a generalizing a' with
  | nil => simp only [DsR] at h1; subst h1; exact h2
  | cons d ds ih =>
    obtain ⟨d', ds', rfl, q1, q2⟩ := h1
    exact ⟨d', ds' ++ b', rfl, q1, ih q2⟩

theorem enter_post {ps : Array Tmp} {a b : Code} {l : Nat} {mark : List Deferred} {h1 : HS} (e : henter trk F ps a b h = some (l, mark, h1, ℓ)) (r : Rel P nG φ G w) (hwf : WF h) (ag : Agree ℓ h G)
    (hf : Fresh φ G h h1) {fr : Frame} (hF : FrR φ F fr) (oa : okC nG a = true) (ob : okC nG b = true) :
    ∃ ψ w' L mark', (Instr.enterLoop fr.fn fr.tmps ps a b fr.roundOf).run P w = .ok (L.blk, mark') w' ∧ ψ l = some L ∧ DsR ψ mark mark' ∧ Post P nG ℓ h h1 φ G w ψ w' := by
  unfold henter at e
  split at e
  · rename_i hro
    cases q : Nat.blt (h.next + 1) keyMax with
    | false => simp [q] at e
    | true =>
      simp only [q, cond_true, Option.some.injEq, Prod.mk.injEq] at e
      obtain ⟨rfl, rfl, rfl, rfl⟩ := e
      have hk : h.next + 1 < keyMax := by simpa [Nat.blt_eq] using q
      have hk0 : h.next < keyMax := by omega
      have hro' : fr.roundOf = none := by
        have := hF.round
        rw [hro] at this; exact this
      have hlog : Log.nil trk = Log.app (Log.rd trk []) (Log.rd trk []) := by cases trk <;> rfl
      rw [hlog] at ag ⊢
      have ag1 := Agree.left (Log.rd_isSome trk []) (Log.rd_isSome trk []) ag
      have p1 := Post.push (P := P) (nG := nG) (o := .deferred (some [])) (ob := .deferred (some [])) (L := ⟨w.heap.size, 0, 0, 0, false⟩) (w' := w.alloc (.deferred (some []))) hk0 r ag1
        (Fresh.left (by simp [HS.push]) hf) rfl rfl rfl rfl rfl ⟨[], rfl, rfl⟩
      have p2 := Post.push (P := P) (nG := nG) (o := aloop F ps a b h.next) (L := ⟨w.heap.size + 1, 0, 0, 0, false⟩)
        (ob := .loop { state := .ready, pending := none, fn := fr.fn, tmps := fr.tmps, params := ps, assign := a, body := b, defers := w.heap.size })
        (w' := (w.alloc (.deferred (some []))).alloc (.loop { state := .ready, pending := none, fn := fr.fn, tmps := fr.tmps, params := ps, assign := a, body := b, defers := w.heap.size }))
        (show (h.push (.deferred (some []))).next < keyMax from hk) p1.rel (Agree.right (Log.rd_isSome trk []) (Log.rd_isSome trk []) p1.log ag) (Fresh.right p1 (p1.wf hwf) hf)
        (by simp) rfl rfl rfl rfl
        ⟨_, ⟨w.heap.size, 0, 0, 0, false⟩, rfl, rfl, rfl, hF.fn, (hF.tmps.mono p1.le).mono (fun id M q => by
          by_cases c : id = (h.push (.deferred (some []))).next
          · have := (Fresh.right p1 (p1.wf hwf) hf id (by omega) (by subst c; simp [HS.push])).1
            rw [this] at q; cases q
          · simpa [c] using q), rfl, rfl, rfl, by simp [HS.push], rfl, oa, ob⟩
      refine ⟨_, _, ⟨w.heap.size + 1, 0, 0, 0, false⟩, _, by rw [hro']; exact run_enterLoop_outer _ _ _ _ _, by simp [HS.push], ?_, Post.trans (Log.rd_isSome trk []) (Log.rd_isSome trk []) p1 p2⟩
      exact ⟨_, [], rfl, ⟨⟨⟨w.heap.size, 0, 0, 0, false⟩, by simp [HS.push], rfl⟩, LR.nil⟩, rfl⟩
  · rename_i l0 hro
    cases hl : hloop h l0 with
    | none => simp [hl] at e
    | some lp =>
      simp only [hl] at e
      cases q : Nat.blt h.next keyMax with
      | false => simp [q] at e
      | true =>
        simp only [q, cond_true, Option.some.injEq, Prod.mk.injEq] at e
        obtain ⟨rfl, rfl, rfl, rfl⟩ := e
        have hk : h.next < keyMax := by simpa [Nat.blt_eq] using q
        obtain ⟨L0, hL0, hro'⟩ : RoR φ (some l0) fr.roundOf := hro ▸ hF.round
        have hg := hloop_get hl
        obtain ⟨hlt, l', D, e2, e3, e4, e5, e6, e7, e8, e9, e10, e11, e12, e13⟩ := rel_loop r (ag.rd_get (by simp) hwf hg) hL0
        have hle : Le φ (fun id => if id = h.next then some (⟨w.heap.size, 0, 0, 0, false⟩ : Loc) else φ id) := fun id M q => by
          by_cases c : id = h.next
          · have := (hf id (by omega) (by subst c; simp [HS.push])).1
            rw [this] at q; cases q
          · simpa [c] using q
        have p1 := Post.push (P := P) (nG := nG) (o := aloop F ps a b lp.dfr) (L := ⟨w.heap.size, 0, 0, 0, false⟩)
          (ob := .loop { state := .ready, pending := none, fn := fr.fn, tmps := fr.tmps, params := ps, assign := a, body := b, defers := D.blk })
          (w' := w.alloc (.loop { state := .ready, pending := none, fn := fr.fn, tmps := fr.tmps, params := ps, assign := a, body := b, defers := D.blk })) hk r ag hf rfl rfl rfl rfl rfl
          ⟨_, D, rfl, rfl, rfl, hF.fn, hF.tmps.mono hle, rfl, rfl, rfl, hle _ _ e10, rfl, oa, ob⟩
        refine ⟨_, _, ⟨w.heap.size, 0, 0, 0, false⟩, [], ?_, by simp, rfl, p1⟩
        rw [hro']
        unfold Instr.enterLoop
        simp only [Sem.run_bind, run_getLoop e2, run_newObj_alloc, Result.andThen, Sem.run_pure, e11]

theorem sound_range (E : Env P nG prim) {n : Nat} (ih : IH P nG prim n) {f : Operand} {ps : Array Tmp} {a b : Code} (e : hx P nG prim (n + 1) trk (.code (.rangeFunc f ps a b) F) h = some (rs, h', ℓ)) :
    Good P nG trk (.code (.rangeFunc f ps a b) F) h rs h' ℓ := by
  have elg := hx_lg E.pl _ _ _ _ _ _ _ e
  cases rs with
  | val => exact fun _ _ _ _ _ _ _ => ⟨elg, trivial⟩
  | recs => exact fun _ _ _ _ _ _ _ => ⟨elg, trivial⟩
  | code x F' =>
  intro φ G w hw hr ha hf
  refine ⟨elg, fun hok fr k cs hF ht => ?_⟩
  simp only [okC, Bool.and_eq_true] at hok
  simp only [hx] at e
  split at e
  · rename_i g first cap hfv
    cases hq : enterOK P g with
    | false => rw [hq] at e; cases e
    | true =>
      rw [hq] at e
      simp only [cond_true] at e
      split at e
      · rename_i l mark h1 l1 e1
        split at e
        · rename_i v h2 l2 e2
          split at e
          · rename_i x' h3 l3 e3
            cases e
            have s1 := henter_lg e1
            have s2 := hx_lg E.pl _ _ _ _ _ _ _ e2
            have s3 := hendLoop_lg e3
            have u2 := hx_up E.pu _ _ _ _ _ _ _ e2
            have u3 := hendLoop_next e3
            have s12 := Log.app_isSome s1 s2
            have a12 := Agree.left s12 s3 ha
            obtain ⟨ψ, w1, L, mark', r1, hL, hds, p1⟩ := enter_post e1 hr hw (Agree.left s1 s2 a12) (Fresh.left (by omega) hf) hF hok.1.2 hok.2
            have hv := eval_rel hr hF.tmps hok.1.1
            rw [hfv] at hv
            obtain ⟨gg, first', cap', hv', hfn, lr1, lr2⟩ := hv.func_inv
            simp only [FnR] at hfn
            subst hfn
            have hargs : LR ψ (first ++ #[Value.func (.yield l) #[] #[]] ++ cap).toList (first' ++ #[Value.func (.yield L.blk) #[] #[]] ++ cap').toList := by
              have hy : LR ψ [Value.func (.yield l) #[] #[]] [Value.func (.yield L.blk) #[] #[]] :=
                LR.cons (.func ⟨L, hL, rfl⟩ rfl rfl (fun i q => by simp at q) (fun i q => by simp at q)) LR.nil
              have := ((lr1.mono p1.le).append hy).append (lr2.mono p1.le)
              simpa using this
            obtain ⟨_, g2⟩ := ih _ (Nat.le_refl _) _ _ _ _ _ _ e2 ψ _ w1 (p1.wf hw) p1.rel (Agree.right s1 s2 p1.log a12) (Fresh.right p1 (p1.wf hw) (Fresh.left (by omega) hf))
            have hst := st_rangeFunc (P := P) (cs := cs) (w := w) (w₂ := w1) (g := g) (args := first' ++ #[Value.func (.yield L.blk) #[] #[]] ++ cap') (first := first') (cap := cap') hF.mode ht r1 (by
              have hev : ({ fr with todo := .inRangeFunc L.blk :: k, defers := mark' ++ fr.defers } : Frame).eval f = .func (.func g) first' cap' := by
                rw [← hv']; cases f <;> rfl
              unfold enterOK at hq
              cases hf2 : P.funcs[g]? with
              | none => simp [hf2] at hq
              | some fn =>
                simp only [hf2, Bool.and_eq_true, Bool.not_eq_true', beq_eq_false_iff_ne] at hq
                have hb2 : fn.body ≠ none := by
                  have := hq.2
                  cases q : fn.body <;> simp_all
                unfold resolve
                simp only [hev, Deferred.ofValue, Sem.run_bind, Sem.run_pure, Result.andThen, invoke]
                simp [callFunc, hf2, hq.1, hb2, Frame.eval])
            obtain ⟨e', w2, fr2, ⟨v', χ, rfl, p2, hvv⟩, hc, hfn, hlv⟩ := g2 _ hargs ({ fr with todo := .inRangeFunc L.blk :: k, defers := mark' ++ fr.defers } :: cs)
            have hs3 := step_leave_returned (c := { fr with todo := .inRangeFunc L.blk :: k, defers := mark' ++ fr.defers }) (cs := cs) hlv
            have hfin : ({ fr with todo := .inRangeFunc L.blk :: k, defers := mark' ++ fr.defers } : Frame).finish v' = { fr with todo := .endRangeFunc L.blk :: k, defers := mark' ++ fr.defers } := rfl
            rw [hfin] at hs3
            have p12 := Post.trans s1 s2 p1 p2
            obtain ⟨w3, j, r3, hj, p3⟩ := endLoop_post e3 p12.rel (p12.wf hw) (Agree.right s12 s3 p12.log ha) (p2.le _ _ hL)
            have hs4 := st_endRangeFunc (P := P) (fr := { fr with todo := .endRangeFunc L.blk :: k, defers := mark' ++ fr.defers }) (cs := cs) hF.mode rfl r3
            have p123 := Post.trans s12 s3 p12 p3
            refine ⟨χ, w3, _, p123, ?_, Steps.head hst (Steps.trans hc (Steps.head hs3 (.one hs4))), ?_⟩
            · have hF2 := hF.mono p123.le
              exact ⟨hF2.tmps, hF2.mode, hF2.fn, hF2.kind, hF2.round, DsR.append (hds.mono p2.le) hF2.defers⟩
            · cases j with
              | none => simp only [backOf, Option.some.injEq] at hj; subst hj; rfl
              | some c =>
                cases c <;> simp only [backOf, Option.some.injEq] at hj <;> try (cases hj; done)
                · subst hj; exact ⟨k, rfl, rfl⟩
                · subst hj; exact ⟨k, rfl⟩
          · cases e
        · cases e
      · cases e
  · cases e

end
end Go.Proofs.YthiaocbikmiciaaGreatDoor.H
namespace Go.Proofs.YthiaocbikmiciaaGreatDoor.H
section
variable {P : Program} {nG : Nat} {prim : Prims} {trk : Bool} {h h' : HS} {φ : Phi} {G : AMap} {w : World} {rs : Rs} {ℓ : Log} {F : Fr}

theorem initT_get : ∀ (vs : List Value) (i : Nat) (t : Tr Value), i + vs.length ≤ keyMax → ∀ j, (initT vs i t).get j = if i ≤ j ∧ j < i + vs.length then vs[j - i]? else t.get j
  | [], i, t, _, j => by
    simp only [initT, List.length_nil]
    rw [if_neg (by omega)]
  | v :: vs, i, t, hk, j => by
    simp only [List.length_cons] at hk
    simp only [initT]
    rw [initT_get vs (i + 1) _ (by omega), Tr.get_put _ _ _ _ (by omega)]
    by_cases c : j = i
    · subst c
      rw [if_neg (by omega), if_pos rfl, if_pos (by simp)]
      simp
    · rw [if_neg c]
      by_cases d : i + 1 ≤ j ∧ j < i + 1 + vs.length
      · rw [if_pos d, if_pos (by simp only [List.length_cons]; omega)]
        rw [show j - i = (j - (i + 1)) + 1 from by omega]
        simp
      · rw [if_neg d, if_neg (by simp only [List.length_cons]; omega)]

theorem init_TR {args args' : Array Value} {n : Nat} (hl : LR φ args.toList args'.toList) (hn : args.size ≤ n) (hk : n < keyMax) :
    TR φ n (initT args.toList 0 .leaf) (args' ++ Array.replicate (n - args'.size) Go.undef) := by
  have hs : args.size = args'.size := by simpa using hl.1
  refine ⟨by simp; omega, fun i => ?_⟩
  rw [initT_get _ _ _ (by simp; omega)]
  by_cases c : i < args.size
  · rw [if_pos (by simpa using c)]
    have := hl.2 i (by simpa using c) (by simpa [← hs] using c)
    have e1 : args.toList[i - 0]? = some args[i] := by simp [c]
    have e2 : (args' ++ Array.replicate (n - args'.size) Go.undef).getD i Go.undef = args'[i]'(by omega) := by
      rw [Array.getD_eq_getD_getElem?, Array.getElem?_append_left (by omega)]
      simp [← hs, c]
    rw [e1, e2]
    simpa using this
  · rw [if_neg (by simpa using c)]
    have e2 : (args' ++ Array.replicate (n - args'.size) Go.undef).getD i Go.undef = Go.undef := by
      rw [Array.getD_eq_getD_getElem?, Array.getElem?_append_right (by omega), Array.getElem?_replicate]
      split <;> rfl
    rw [e2]
    simpa [Tr.get] using VR.undef

theorem collect_post : ∀ {ds : List Deferred} {h h1 : HS} {ℓ : Log} {G : AMap} {w : World} {fr : Frame} {cs : List Frame}, hcollect trk h ds = some (h1, ℓ) → Rel P nG φ G w → WF h → Agree ℓ h G → DsR φ ds fr.defers → fr.mode = .returning →
    ∃ w', Post P nG ℓ h h1 φ G w φ w' ∧ Steps P (lone fr cs w) (lone { fr with defers := [] } cs w')
  | [], h, h1, ℓ, G, w, fr, cs, e, r, hwf, a, hd, hm => by
    simp only [hcollect] at e; cases e
    simp only [DsR] at hd
    refine ⟨w, Post.nil r a, ?_⟩
    have : ({ fr with defers := [] } : Frame) = fr := by cases fr; simp_all
    rw [this]; exact .refl _ _
  | d :: ds, h, h1, ℓ, G, w, fr, cs, e, r, hwf, a, hd, hm => by
    simp only [hcollect] at e
    split at e
    · rename_i b ht
      split at e
      · rename_i hg
        split at e
        · rename_i h2 l1 e1
          split at e
          · rename_i h3 l2 e2
            cases e
            obtain ⟨d', ds', hdd, hD, hds⟩ := hd
            obtain ⟨hT, _⟩ := hD
            rw [ht] at hT
            obtain ⟨L, hL, ht'⟩ := hT
            have s1 := hset_lg e1
            have s2 := hcollect_lg e2
            have a1 := Agree.left s1 s2 a
            have hlog := hset_log e1
            have a1' := a1
            rw [hlog] at a1'
            obtain ⟨M, ob, q1, q2, ds'', q3, q4⟩ := r.live b _ (a1'.wr_get hwf hg)
            rw [hL] at q1; cases q1
            simp only [DsR] at q4
            subst q4; subst q3
            have p1 := hset_post (P := P) (nG := nG) (ob := .deferred none) e1 r hwf a1 hg hL (Array.getElem?_eq_some_iff.1 q2).1 rfl
            have hst := st_collected (P := P) (fr := fr) (cs := cs) (b := L.blk) (args := d'.args) (ds := ds') hm (by rw [hdd, ← ht']) (run_takeDeferred q2)
            obtain ⟨w', p2, s2'⟩ := collect_post (fr := { fr with defers := [] ++ ds' }) (cs := cs) e2 p1.rel (p1.wf hwf) (Agree.right s1 s2 p1.log a) (by simpa using hds) hm
            exact ⟨w', Post.trans s1 s2 p1 p2, Steps.head hst s2'⟩
          · cases e
        · cases e
      · cases e
    · cases e

theorem hload_run {t : TypeId} {a a' v : Value} {h1 : HS} (e : hload P trk t a h = some (.val v, h1, ℓ)) (r : Rel P nG φ G w) (hwf : WF h) (ag : Agree ℓ h G) (ha : VR φ a a') :
    h1 = h ∧ (∃ l, ℓ = Log.rd trk l) ∧ ∃ v', (do loadVar t (← asAddr a') : Sem Value).run P w = .ok v' w ∧ VR φ v v' := by
  cases ha
  case pointer id L off hφ =>
    simp only [hload] at e
    cases hg : h.m.get id with
    | none => simp [hg] at e
    | some o =>
      cases o with
      | cells cs elem g =>
        simp only [hg] at e
        cases hagg : aggB P t with
        | true =>
          simp only [hagg, cond_true] at e
          cases hl : (sizeO P t).bind (sub cs off) with
          | none => simp [hl] at e
          | some l =>
            simp only [hl] at e
            cases e
            obtain ⟨n, hn, hl⟩ := Option.bind_eq_some_iff.1 hl
            obtain ⟨l', e1, e2, _⟩ := run_cells r (ag.rd_get (by simp) hwf hg) hφ hl
            refine ⟨rfl, ⟨_, rfl⟩, .agg l'.toArray, ?_, VR.of_LR e2⟩
            simp [asAddr, loadVar, run_isAgg (agg_under hagg), hagg, run_sizeOf hn, e1 w rfl]
        | false =>
          simp only [hagg, cond_false] at e
          cases hu : P.underlying t with
          | none => simp [hu] at e
          | some d =>
          cases hl : cs[off]? with
          | none => simp [hu, hl] at e
          | some v =>
            simp only [hu, hl] at e
            cases e
            obtain ⟨c, h1, h2, h3, h4, h5, h6, h7⟩ := rel_cells r (ag.rd_get (by simp) hwf hg) hφ
            obtain ⟨hlt, rfl⟩ := List.getElem?_eq_some_iff.1 hl
            obtain ⟨v', e1, e2⟩ := h7 off hlt
            refine ⟨rfl, ⟨_, rfl⟩, v', ?_, e2⟩
            simp [asAddr, loadVar, run_isAgg (P := P) (t := t) (by simp [hu]), hagg, cell_of_heap h1 e1]
      | map => simp [hg] at e
      | loop => simp [hg] at e
      | deferred => simp [hg] at e
  all_goals (simp only [hload] at e; cases e)

def rvRun (tmps : Array Value) : ResultVar → Sem Value
  | .tmp t => pure (tmps.getD t Go.undef)
  | .cell a t => do loadVar t (← asAddr (tmps.getD a Go.undef))

theorem results_eq (fn : Func) (tmps : Array Value) : results fn tmps = (do
    let vs ← fn.results.mapM (rvRun tmps)
    pure (if h : vs.size = 1 then vs[0] else .tuple vs)) := by
  unfold results
  congr 2

theorem results_run {fr : Frame} (hF : TR φ F.n F.tmps fr.tmps) : ∀ {l : List ResultVar} {vs : List Value} {ℓ : Log} {G : AMap}, hresults P trk F h l = some (vs, ℓ) → Rel P nG φ G w → WF h → Agree ℓ h G →
    Post P nG ℓ h h φ G w φ w ∧ ∃ vs', (l.mapM (rvRun fr.tmps)).run P w = .ok vs' w ∧ LR φ vs vs'
  | [], vs, ℓ, G, e, r, hwf, a => by
    simp only [hresults] at e; cases e
    exact ⟨Post.nil r a, [], by simp, LR.nil⟩
  | .tmp t :: rest, vs, ℓ, G, e, r, hwf, a => by
    simp only [hresults] at e
    obtain ⟨⟨vs1, l1⟩, e1, e2⟩ := Option.map_eq_some_iff.1 e
    cases e2
    obtain ⟨p, vs', q1, q2⟩ := results_run hF e1 r hwf a
    refine ⟨p, _ :: vs', ?_, LR.cons (hF.2 t) q2⟩
    rw [List.mapM_cons]
    simp only [Sem.run_bind]
    rw [show (rvRun fr.tmps (.tmp t)).run P w = .ok (fr.tmps.getD t Go.undef) w from rfl]
    simp only [Result.andThen, q1, Sem.run_pure]
  | .cell b t :: rest, vs, ℓ, G, e, r, hwf, a => by
    simp only [hresults] at e
    split at e
    · rename_i v h1 l1 vs1 l2 e1 e2
      cases e
      have s1 := hload_lg e1
      have s2 := hresults_lg e2
      have a1 := Agree.left s1 s2 a
      obtain ⟨_, ⟨l, hl⟩, v', r1, hv⟩ := hload_run e1 r hwf a1 (hF.2 b)
      subst hl
      have p1 : Post P nG (Log.rd trk l) h h φ G w φ w := Post.rd r a1 rfl rfl rfl rfl
      have a2 := Agree.right s1 s2 p1.log a
      obtain ⟨p2, vs', q1, q2⟩ := results_run hF e2 p1.rel hwf a2
      refine ⟨Post.trans s1 s2 p1 p2, v' :: vs', ?_, LR.cons hv q2⟩
      rw [List.mapM_cons]
      simp only [Sem.run_bind]
      rw [show (rvRun fr.tmps (.cell b t)).run P w = .ok v' w from r1]
      simp only [Result.andThen, q1, Sem.run_pure]
    · cases e

theorem one_VR {vs vs' : List Value} (h : LR φ vs vs') : VR φ (one vs) (if h : vs'.toArray.size = 1 then vs'.toArray[0] else .tuple vs'.toArray) := by
  cases vs with
  | nil =>
    have : vs' = [] := by have := h.1; exact List.eq_nil_of_length_eq_zero (by simpa using this.symm)
    subst this
    exact VR.tuple_of_LR h
  | cons v vs =>
    cases vs' with
    | nil => have := h.1; simp at this
    | cons v' vs' =>
      cases vs with
      | nil =>
        have : vs' = [] := by have := h.1; exact List.eq_nil_of_length_eq_zero (by simpa using this.symm)
        subst this
        simpa [one] using h.2 0 (by simp) (by simp)
      | cons u us =>
        have hl := h.1
        rw [dif_neg (by intro q; simp at q; subst q; simp at hl)]
        exact VR.tuple_of_LR h

theorem sound_call (E : Env P nG prim) {n : Nat} (ih : IH P nG prim n) {f : FuncId} {args : Array Value} (e : hx P nG prim (n + 1) trk (.call f args) h = some (rs, h', ℓ)) : Good P nG trk (.call f args) h rs h' ℓ := by
  have elg := hx_lg E.pl _ _ _ _ _ _ _ e
  cases rs with
  | code => exact fun _ _ _ _ _ _ _ => ⟨elg, trivial⟩
  | recs => exact fun _ _ _ _ _ _ _ => ⟨elg, trivial⟩
  | val v =>
  simp only [hx] at e
  split at e
  · rename_i p hpp
    obtain ⟨⟨a, b, c⟩, e1, e2⟩ := Option.map_eq_some_iff.1 e
    cases e2
    exact E.ps f p hpp _ _ _ _ _ _ e1
  · split at e
    · cases e
    · rename_i fn hfn
      split at e
      · cases e
      · rename_i c hbody
        cases hb : okC nG c && Nat.ble args.size fn.ntmps && Nat.blt fn.ntmps keyMax with
        | false => simp [hb] at e
        | true =>
        simp only [hb, cond_true] at e
        simp only [Bool.and_eq_true] at hb
        obtain ⟨⟨b1, b2⟩, b3⟩ := hb
        split at e
        · rename_i x F1 h1 l1 e1
          have hx' : ∃ h2 l2 vs l3, (∀ i, x ≠ .exit i) ∧ hcollect trk h1 F1.defers = some (h2, l2) ∧ hresults P trk F1 h2 fn.results.toList = some (vs, l3) ∧ v = one vs ∧ h' = h2 ∧ ℓ = (l1.app l2).app l3 := by
            cases x with
            | exit i => cases e
            | normal =>
              simp only at e
              split at e
              · rename_i h2 l2 e2
                split at e
                · rename_i vs l3 e3
                  cases e
                  exact ⟨_, _, _, _, by simp, e2, e3, rfl, rfl, rfl⟩
                · cases e
              · cases e
            | ret =>
              simp only at e
              split at e
              · rename_i h2 l2 e2
                split at e
                · rename_i vs l3 e3
                  cases e
                  exact ⟨_, _, _, _, by simp, e2, e3, rfl, rfl, rfl⟩
                · cases e
              · cases e
          obtain ⟨h2, l2, vs, l3, hxe, e2, e3, rfl, rfl, rfl⟩ := hx'
          have s1 := hx_lg E.pl _ _ _ _ _ _ _ e1
          have s2 := hcollect_lg e2
          have s3 := hresults_lg e3
          have u2 := hcollect_next e2
          have m1 := hx_same _ _ _ _ _ _ _ e1
          have s12 := Log.app_isSome s1 s2
          intro φ G w hw hr ha hf
          refine ⟨elg, fun args' hl cs => ?_⟩
          have a12 := Agree.left s12 s3 ha
          obtain ⟨_, g1⟩ := ih _ (Nat.le_refl _) _ _ _ _ _ _ e1 φ G w hw hr (Agree.left s1 s2 a12) (Fresh.left (by omega) hf)
          have hF0 : FrR φ { tmps := initT args.toList 0 .leaf, n := fn.ntmps, fn := f, round := none, defers := [] } (Frame.enter P f args' .normal) := by
            refine ⟨?_, rfl, rfl, rfl, rfl, rfl⟩
            have := init_TR (n := fn.ntmps) hl (Nat.le_of_ble_eq_true b2) (by simpa [Nat.blt_eq] using b3)
            simpa [Frame.enter, hfn] using this
          have htodo : (Frame.enter P f args' .normal).todo = .code c :: [] := by simp [Frame.enter, hfn, hbody]
          obtain ⟨ψ, w1, fr1, p1, hF1, t1, z1⟩ := g1 b1 _ [] cs hF0 htodo
          have hro : fr1.roundOf = none := by
            have := hF1.round
            rw [m1.2.2] at this
            exact this
          have hst : step P (lone fr1 cs w1) = .next (lone { fr1 with mode := .returning } cs w1) := by
            cases x with
            | normal => exact st_end hF1.mode z1 hro
            | exit i => exact absurd rfl (hxe i)
            | ret => obtain ⟨k2, q⟩ := z1; exact st_ret hF1.mode q hro
          obtain ⟨w2, p2, t2⟩ := collect_post (fr := { fr1 with mode := .returning }) (cs := cs) e2 p1.rel (p1.wf hw) (Agree.right s1 s2 p1.log a12) hF1.defers rfl
          have p12 := Post.trans s1 s2 p1 p2
          obtain ⟨p3, vs', q1, q2⟩ := results_run (fr := fr1) hF1.tmps e3 p12.rel (p12.wf hw) (Agree.right s12 s3 p12.log ha)
          have hfr : fr1.fn = f := by rw [hF1.fn, m1.2.1]
          refine ⟨.returned _, w2, _, ⟨_, ψ, rfl, Post.trans s12 s3 p12 p3, one_VR q2⟩, (t1.trans (Steps.head hst t2)), hfr, rfl, rfl, hF1.kind, fn, ?_, ?_⟩
          · rw [show ({ fr1 with mode := .returning, defers := [] } : Frame).fn = fr1.fn from rfl, hfr]; exact hfn
          · rw [results_eq, Array.mapM_eq_mapM_toList]
            simp only [Sem.run_bind, map_eq_pure_bind, q1, Result.andThen, Sem.run_pure]
        · cases e

theorem sound (E : Env P nG prim) : ∀ n, IH P nG prim n := by
  intro n
  induction n with
  | zero =>
    intro m hm trk tk h rs h' ℓ e
    have : m = 0 := by omega
    subst this
    simp [hx] at e
  | succ n ih =>
    intro m hm trk tk h rs h' ℓ e
    by_cases c : m ≤ n
    · exact ih m c _ _ _ _ _ _ e
    · have : m = n + 1 := by omega
      subst this
      cases tk with
      | op o F => exact sound_op E ih e
      | ops l all F => exact sound_ops E ih e
      | drw l all F acc => exact fun _ _ _ _ _ _ _ => ⟨hx_lg E.pl _ _ _ _ _ _ _ e, by cases rs <;> trivial⟩
      | call f args => exact sound_call E ih e
      | round id F a b => exact sound_round E ih e
      | code c F =>
        cases c with
        | rangeFunc f ps a b => exact sound_range E ih e
        | _ => exact sound_code E ih rfl e

end
end Go.Proofs.YthiaocbikmiciaaGreatDoor.H
