/- The machine that is run by the kernel, part 9: no claim of its own. -/
import Derived.Test.YthiaocbikmiciaaGreatDoorH7
import Derived.Test.YthiaocbikmiciaaGreatDoorH8
namespace Go.Proofs.YthiaocbikmiciaaGreatDoor.H
section
variable {P : Program} {nG : Nat} {prim : Prims} {trk : Bool} {h h' : HS} {φ : Phi} {G : AMap} {w : World} {rs : Rs} {ℓ : Log} {F : Fr}

structure Env (P : Program) (nG : Nat) (prim : Prims) : Prop where
  mx : P.follows .mixedOrders = true
  pu : PrimUp prim
  pl : PrimLg prim
  ps : ∀ f p, prim f = some p → ∀ trk h args v h' ℓ, p trk h args = some (v, h', ℓ) → Good P nG trk (.call f args) h (.val v) h' ℓ

def IH (P : Program) (nG : Nat) (prim : Prims) (n : Nat) : Prop := ∀ m, m ≤ n → ∀ trk tk h rs h' ℓ, hx P nG prim m trk tk h = some (rs, h', ℓ) → Good P nG trk tk h rs h' ℓ

theorem Post.nil (r : Rel P nG φ G w) (a : Agree (Log.nil trk) h G) : Post P nG (Log.nil trk) h h φ G w φ w := by
  rw [Log.nil_eq] at a ⊢
  exact Post.rd r a rfl rfl rfl rfl

theorem sound_op (E : Env P nG prim) {n : Nat} (ih : IH P nG prim n) {o : Oper} (e : hx P nG prim (n + 1) trk (.op o F) h = some (rs, h', ℓ)) : Good P nG trk (.op o F) h rs h' ℓ := by
  intro φ G w hw hr ha hf
  refine ⟨hx_lg E.pl _ _ _ _ _ _ _ e, ?_⟩
  cases rs with
  | code => trivial
  | recs => trivial
  | val v =>
  intro fr k cs all i rest hm ht ho hwant hops
  simp only [hx] at e
  cases h0 : hop P trk F.eval o h with
  | none => simp [h0] at e
  | some y =>
    obtain ⟨y, h1, l1⟩ := y
    have S := snd_hop (P := P) (nG := nG) (trk := trk) (h := h) (φ := φ) (G := G) (w := w) (ρ := F.eval) (ρ' := fr.eval) (o := o) hops
    have hd := hop_notDefer h0
    have l1s := lg_hop (P := P) (trk := trk) (h := h) (ρ := F.eval) (o := o) _ _ _ h0
    cases y with
    | val u =>
      simp only [h0] at e
      cases e
      obtain ⟨_, ψ, y, w', q1, q2, q3⟩ := S _ _ _ h0 hw hr ha hf
      rcases q3 with ⟨v', rfl, hv⟩ | ⟨rfl, rfl⟩
      · exact ⟨ψ, w', v', q2, hv, .one (st_value hm ht ho hwant hd q1)⟩
      · exact ⟨ψ, w', undef, q2, VR.undef, .one (st_skipped hm ht ho hwant hd q1)⟩
    | enter f args =>
      simp only [h0] at e
      obtain ⟨l2, e1, rfl⟩ := pre_some e
      have l2s := hx_lg E.pl _ _ _ _ _ _ _ e1
      have up2 := hx_up E.pu _ _ _ _ _ _ _ e1
      obtain ⟨_, ψ, y, w1, q1, q2, q3⟩ := S _ _ _ h0 hw hr (Agree.left l1s l2s ha) (Fresh.left up2 hf)
      obtain ⟨args', rfl, hl⟩ := q3
      obtain ⟨_, g⟩ := ih _ (Nat.le_refl _) _ _ _ _ _ _ e1 ψ _ w1 (q2.wf hw) q2.rel (Agree.right l1s l2s q2.log ha) (Fresh.right q2 (q2.wf hw) hf)
      obtain ⟨e', w2, fr2, ⟨v', χ, rfl, p2, hv⟩, hc, hfn, hlv⟩ := g args' hl (fr :: cs)
      refine ⟨χ, w2, v', Post.trans l1s l2s q2 p2, hv, ?_⟩
      have s3 := step_leave_returned (c := fr) (cs := cs) hlv
      rw [finish_put ht ho] at s3
      exact Steps.head (st_enter hm ht ho hwant hd q1) (Steps.trans hc (.one s3))
    | round id nn tmps fn a b =>
      simp only [h0] at e
      obtain ⟨l2, e1, rfl⟩ := pre_some e
      have l2s := hx_lg E.pl _ _ _ _ _ _ _ e1
      have up2 := hx_up E.pu _ _ _ _ _ _ _ e1
      obtain ⟨_, ψ, y, w1, q1, q2, q3⟩ := S _ _ _ h0 hw hr (Agree.left l1s l2s ha) (Fresh.left up2 hf)
      obtain ⟨L, tmps', hL, rfl, htr, oa, ob⟩ := q3
      obtain ⟨_, g⟩ := ih _ (Nat.le_refl _) _ _ _ _ _ _ e1 ψ _ w1 (q2.wf hw) q2.rel (Agree.right l1s l2s q2.log ha) (Fresh.right q2 (q2.wf hw) hf)
      obtain ⟨χ, w2, v', p2, hv, hs⟩ := g oa ob L fr cs tmps' hL htr
      rw [finish_put ht ho] at hs
      exact ⟨χ, w2, v', Post.trans l1s l2s q2 p2, hv, Steps.head (st_round hm ht ho hwant hd q1) hs⟩

theorem ops_normal : ∀ (n : Nat) {l : List Oper} {all : Array Oper} {F F' : Fr} {h h' : HS} {x : HX} {ℓ : Log}, hx P nG prim n trk (.ops l all F) h = some (.code x F', h', ℓ) → x = .normal := by
  intro n
  induction n with
  | zero => intro l all F F' h h' x ℓ e; simp [hx] at e
  | succ n ih =>
    intro l all F F' h h' x ℓ e
    cases l with
    | nil => simp only [hx] at e; cases e; rfl
    | cons o rest =>
      simp only [hx] at e
      cases hw : F.wanted all o with
      | true =>
        simp only [hw, cond_true] at e
        split at e
        · split at e
          · obtain ⟨l', e1, _⟩ := pre_some e
            exact ih e1
          · cases e
        · cases e
      | false =>
        simp only [hw, cond_false] at e
        split at e
        · exact ih e
        · cases e

theorem sound_ops (E : Env P nG prim) {n : Nat} (ih : IH P nG prim n) {l : List Oper} {all : Array Oper} (e : hx P nG prim (n + 1) trk (.ops l all F) h = some (rs, h', ℓ)) : Good P nG trk (.ops l all F) h rs h' ℓ := by
  intro φ G w hw hr ha hf
  refine ⟨hx_lg E.pl _ _ _ _ _ _ _ e, ?_⟩
  cases rs with
  | val => trivial
  | recs => trivial
  | code x F' =>
  intro hok fr k cs idxs hF ht hmap
  cases l with
  | nil =>
    simp only [hx] at e
    cases e
    have : idxs = [] := by simpa using hmap
    subst this
    exact ⟨φ, w, { fr with todo := k }, Post.nil hr ha, hF.todo k, .one (st_region_end hF.mode ht), rfl⟩
  | cons o rest =>
    cases idxs with
    | nil => simp at hmap
    | cons i idxs =>
    simp only [List.map_cons, List.cons.injEq] at hmap
    obtain ⟨ho, hmap⟩ := hmap
    simp only [List.all_cons, Bool.and_eq_true] at hok
    simp only [hx] at e
    have hwt := wanted_rel (all := all) (o := o) hF.tmps
    cases hwn : F.wanted all o with
    | true =>
      simp only [hwn, cond_true] at e
      split at e
      · rename_i v h1 l1 e1
        split at e
        · rename_i F1 hp
          obtain ⟨l2, e2, rfl⟩ := pre_some e
          have l1s := hx_lg E.pl _ _ _ _ _ _ _ e1
          have l2s := hx_lg E.pl _ _ _ _ _ _ _ e2
          have up2 := hx_up E.pu _ _ _ _ _ _ _ e2
          obtain ⟨_, g1⟩ := ih _ (Nat.le_refl _) _ _ _ _ _ _ e1 φ G w hw hr (Agree.left l1s l2s ha) (Fresh.left up2 hf)
          obtain ⟨ψ, w1, v', p1, hv, s1⟩ := g1 fr k cs all i idxs hF.mode ht ho (by rw [hwt, hwn]) (fun x hx => eval_rel hr hF.tmps (List.all_eq_true.1 hok.1 x (by simpa using hx)))
          obtain ⟨_, g2⟩ := ih _ (Nat.le_refl _) _ _ _ _ _ _ e2 ψ _ w1 (p1.wf hw) p1.rel (Agree.right l1s l2s p1.log ha) (Fresh.right p1 (p1.wf hw) hf)
          obtain ⟨χ, w2, fr2, p2, hF2, s2, t2⟩ := g2 hok.2 (Frame.put fr o v' all idxs k) k cs idxs (put_rel (hF.mono p1.le) hp hv) rfl hmap
          exact ⟨χ, w2, fr2, Post.trans l1s l2s p1 p2, hF2, s1.trans s2, t2⟩
        · cases e
      · cases e
    | false =>
      simp only [hwn, cond_false] at e
      split at e
      · rename_i F1 hp
        obtain ⟨_, g2⟩ := ih _ (Nat.le_refl _) _ _ _ _ _ _ e φ G w hw hr ha hf
        obtain ⟨χ, w2, fr2, p2, hF2, s2, t2⟩ := g2 hok.2 (Frame.put fr o undef all idxs k) k cs idxs (put_rel hF hp VR.undef) rfl hmap
        exact ⟨χ, w2, fr2, p2, hF2, Steps.head (st_skip hF.mode ht ho (by rw [hwt, hwn])) s2, t2⟩
      · cases e

theorem steps_swap {A B m' : Machine} (hs : step P A = step P B) (h : Steps P A m') (hne : m' ≠ A) : Steps P B m' := by
  obtain ⟨n, hn⟩ := h
  cases n with
  | zero => simp only [runN] at hn; cases hn; exact absurd rfl hne
  | succ n =>
    refine ⟨n + 1, ?_⟩
    rw [← hn]
    simp only [runN, hs]

end
end Go.Proofs.YthiaocbikmiciaaGreatDoor.H
namespace Go.Proofs.YthiaocbikmiciaaGreatDoor.H
section
variable {P : Program} {nG : Nat} {prim : Prims} {trk : Bool} {h h' : HS} {φ : Phi} {G : AMap} {w : World} {rs : Rs} {ℓ : Log} {F : Fr}

theorem exitTo_drop {i : Nat} {x : Item} {k : List Item} (hx : (match x with | .inBlock _ => false | _ => true) = true) : exitTo i (x :: k) = exitTo i k := by
  cases x <;> simp [exitTo] at hx ⊢

theorem Ends.drop {x : HX} {y : Item} {k t : List Item} (hy : (match y with | .inBlock _ => false | _ => true) = true) (hn : x ≠ .normal) (he : Ends x (y :: k) t) : Ends x k t := by
  cases x with
  | normal => exact absurd rfl hn
  | exit i => obtain ⟨k2, e1, e2⟩ := he; exact ⟨k2, e1, by rw [e2, exitTo_drop hy]⟩
  | ret => exact he

/-- A code's result, put behind what led to it. -/
theorem code_head {c : Code} {x : HX} {F' : Fr} {fr fr1 : Frame} {k : List Item} {cs : List Frame} (s0 : step P (lone fr cs w) = .next (lone fr1 cs w))
    (g : ∃ ψ w' fr', Post P nG ℓ h h' φ G w ψ w' ∧ FrR ψ F' fr' ∧ Steps P (lone fr1 cs w) (lone fr' cs w') ∧ Ends x k fr'.todo) :
    ∃ ψ w' fr', Post P nG ℓ h h' φ G w ψ w' ∧ FrR ψ F' fr' ∧ Steps P (lone fr cs w) (lone fr' cs w') ∧ Ends x k fr'.todo := by
  obtain ⟨ψ, w', fr', p, q, s, t⟩ := g
  exact ⟨ψ, w', fr', p, q, Steps.head s0 s, t⟩

theorem sound_code (E : Env P nG prim) {n : Nat} (ih : IH P nG prim n) {c : Code} (hnr : (match c with | .rangeFunc _ _ _ _ => false | _ => true) = true)
    (e : hx P nG prim (n + 1) trk (.code c F) h = some (rs, h', ℓ)) : Good P nG trk (.code c F) h rs h' ℓ := by
  have elg := hx_lg E.pl _ _ _ _ _ _ _ e
  cases rs with
  | val => exact fun _ _ _ _ _ _ _ => ⟨elg, trivial⟩
  | recs => exact fun _ _ _ _ _ _ _ => ⟨elg, trivial⟩
  | code x F' =>
  cases c with
  | skip =>
    simp only [hx] at e; cases e
    exact fun φ G w hw hr ha hf => ⟨elg, fun hok fr k cs hF ht => ⟨φ, w, { fr with todo := k }, Post.nil hr ha, hF.todo k, .one (st_drop hF.mode ht rfl), rfl⟩⟩
  | label l =>
    simp only [hx] at e; cases e
    exact fun φ G w hw hr ha hf => ⟨elg, fun hok fr k cs hF ht => ⟨φ, w, { fr with todo := k }, Post.nil hr ha, hF.todo k, .one (st_drop hF.mode ht rfl), rfl⟩⟩
  | exit i =>
    simp only [hx] at e; cases e
    exact fun φ G w hw hr ha hf => ⟨elg, fun hok fr k cs hF ht => ⟨φ, w, fr, Post.nil hr ha, hF, .refl _ _, k, ht, rfl⟩⟩
  | ret =>
    simp only [hx] at e; cases e
    exact fun φ G w hw hr ha hf => ⟨elg, fun hok fr k cs hF ht => ⟨φ, w, fr, Post.nil hr ha, hF, .refl _ _, k, ht⟩⟩
  | seq a b =>
    intro φ G w hw hr ha hf
    refine ⟨elg, fun hok fr k cs hF ht => ?_⟩
    simp only [okC, Bool.and_eq_true] at hok
    simp only [hx] at e
    refine code_head (c := .seq a b) (st_seq hF.mode ht) ?_
    cases h1 : hx P nG prim n trk (.code a F) h with
    | none => simp [h1] at e
    | some y =>
      obtain ⟨y, s, l1⟩ := y
      have l1s := hx_lg E.pl _ _ _ _ _ _ _ h1
      simp only [h1] at e
      split at e
      · rename_i q
        cases q
        obtain ⟨l2, e2, rfl⟩ := pre_some e
        have l2s := hx_lg E.pl _ _ _ _ _ _ _ e2
        have up2 := hx_up E.pu _ _ _ _ _ _ _ e2
        obtain ⟨_, g1⟩ := ih _ (Nat.le_refl _) _ _ _ _ _ _ h1 φ G w hw hr (Agree.left l1s l2s ha) (Fresh.left up2 hf)
        obtain ⟨ψ, w1, fr1, p1, hF1, s1, t1⟩ := g1 hok.1 { fr with todo := .code a :: .code b :: k } (.code b :: k) cs (hF.todo _) rfl
        obtain ⟨_, g2⟩ := ih _ (Nat.le_refl _) _ _ _ _ _ _ e2 ψ _ w1 (p1.wf hw) p1.rel (Agree.right l1s l2s p1.log ha) (Fresh.right p1 (p1.wf hw) hf)
        obtain ⟨χ, w2, fr2, p2, hF2, s2, t2⟩ := g2 hok.2 fr1 k cs hF1 t1
        exact ⟨χ, w2, fr2, Post.trans l1s l2s p1 p2, hF2, s1.trans s2, t2⟩
      · rename_i hno
        cases e
        obtain ⟨_, g1⟩ := ih _ (Nat.le_refl _) _ _ _ _ _ _ h1 φ G w hw hr ha hf
        obtain ⟨ψ, w1, fr1, p1, hF1, s1, t1⟩ := g1 hok.1 { fr with todo := .code a :: .code b :: k } (.code b :: k) cs (hF.todo _) rfl
        refine ⟨ψ, w1, fr1, p1, hF1, s1, t1.drop rfl ?_⟩
        rintro rfl
        exact hno _ _ _ rfl
  | cond c a b =>
    intro φ G w hw hr ha hf
    refine ⟨elg, fun hok fr k cs hF ht => ?_⟩
    simp only [okC, Bool.and_eq_true] at hok
    simp only [hx] at e
    split at e
    · rename_i t hc
      have hv := eval_rel hr hF.tmps hok.1.1
      rw [hc] at hv
      have hc' : fr.eval c = .bool t := by
        generalize fr.eval c = y at hv
        cases hv; rfl
      obtain ⟨_, g⟩ := ih _ (Nat.le_refl _) _ _ _ _ _ _ e φ G w hw hr ha hf
      refine code_head (c := .cond c a b) (st_cond hF.mode ht hc') ?_
      refine g (by cases t; exact hok.2; exact hok.1.2) _ k cs (hF.todo _) ?_
      cases t <;> rfl
    · cases e
  | block id c =>
    intro φ G w hw hr ha hf
    refine ⟨elg, fun hok fr k cs hF ht => ?_⟩
    simp only [okC] at hok
    simp only [hx] at e
    refine code_head (c := .block id c) (st_block hF.mode ht) ?_
    cases h1 : hx P nG prim n trk (.code c F) h with
    | none => simp [h1] at e
    | some y =>
      obtain ⟨y, s, l1⟩ := y
      simp only [h1] at e
      split at e
      · rename_i i F1 _ _ q
        cases q
        cases e
        obtain ⟨_, g1⟩ := ih _ (Nat.le_refl _) _ _ _ _ _ _ h1 φ G w hw hr ha hf
        obtain ⟨ψ, w1, fr1, p1, hF1, s1, k2, t1, t2⟩ := g1 hok { fr with todo := .code c :: .inBlock id :: k } (.inBlock id :: k) cs (hF.todo _) rfl
        cases hb : i.beq id with
        | true =>
          have : i = id := Nat.eq_of_beq_eq_true hb
          subst this
          refine ⟨ψ, w1, { fr1 with todo := k }, p1, hF1.todo k, s1.trans (.one (st_exit hF1.mode t1 ?_)), rfl⟩
          rw [t2]; simp [exitTo]
        | false =>
          refine ⟨ψ, w1, fr1, p1, hF1, s1, k2, t1, ?_⟩
          rw [t2]
          have : id ≠ i := fun q => by subst q; rw [Nat.beq_refl] at hb; cases hb
          simp [exitTo, this]
      · rename_i hno
        cases e
        obtain ⟨_, g1⟩ := ih _ (Nat.le_refl _) _ _ _ _ _ _ h1 φ G w hw hr ha hf
        obtain ⟨ψ, w1, fr1, p1, hF1, s1, t1⟩ := g1 hok { fr with todo := .code c :: .inBlock id :: k } (.inBlock id :: k) cs (hF.todo _) rfl
        cases x with
        | normal => exact ⟨ψ, w1, { fr1 with todo := k }, p1, hF1.todo k, s1.trans (.one (st_drop hF1.mode t1 rfl)), rfl⟩
        | exit i => exact absurd rfl (hno _ _ _ _)
        | ret => exact ⟨ψ, w1, fr1, p1, hF1, s1, t1⟩
  | loop c =>
    intro φ G w hw hr ha hf
    refine ⟨elg, fun hok fr k cs hF ht => ?_⟩
    simp only [okC] at hok
    simp only [hx] at e
    refine code_head (c := .loop c) (st_loop hF.mode ht) ?_
    cases h1 : hx P nG prim n trk (.code c F) h with
    | none => simp [h1] at e
    | some y =>
      obtain ⟨y, s, l1⟩ := y
      have l1s := hx_lg E.pl _ _ _ _ _ _ _ h1
      simp only [h1] at e
      split at e
      · rename_i q
        cases q
        obtain ⟨l2, e2, rfl⟩ := pre_some e
        have l2s := hx_lg E.pl _ _ _ _ _ _ _ e2
        have up2 := hx_up E.pu _ _ _ _ _ _ _ e2
        obtain ⟨_, g1⟩ := ih _ (Nat.le_refl _) _ _ _ _ _ _ h1 φ G w hw hr (Agree.left l1s l2s ha) (Fresh.left up2 hf)
        obtain ⟨ψ, w1, fr1, p1, hF1, s1, t1⟩ := g1 hok { fr with todo := .code c :: .inLoop c :: k } (.inLoop c :: k) cs (hF.todo _) rfl
        obtain ⟨_, g2⟩ := ih _ (Nat.le_refl _) _ _ _ _ _ _ e2 ψ _ w1 (p1.wf hw) p1.rel (Agree.right l1s l2s p1.log ha) (Fresh.right p1 (p1.wf hw) hf)
        obtain ⟨χ, w2, fr2, p2, hF2, s2, t2⟩ := g2 hok { fr1 with todo := .code (.loop c) :: k } k cs (hF1.todo _) rfl
        refine ⟨χ, w2, fr2, Post.trans l1s l2s p1 p2, hF2, s1.trans (steps_swap (A := lone { fr1 with todo := .code (.loop c) :: k } cs w1) ?_ s2 ?_), t2⟩
        · rw [st_loop (fr := { fr1 with todo := .code (.loop c) :: k }) hF1.mode rfl, st_inLoop hF1.mode t1]
        · intro he
          have hfe : fr2 = { fr1 with todo := .code (.loop c) :: k } := by
            have := congrArg (fun m : Machine => m.gs[0]?.map (·.frame)) he
            simpa [lone] using this
          rw [hfe] at t2
          cases x with
          | normal => have := congrArg List.length (show Item.code (.loop c) :: k = k from t2); simp at this
          | exit i => obtain ⟨k2, q, _⟩ := t2; simp at q
          | ret => obtain ⟨k2, q⟩ := t2; simp at q
      · rename_i hno
        cases e
        obtain ⟨_, g1⟩ := ih _ (Nat.le_refl _) _ _ _ _ _ _ h1 φ G w hw hr ha hf
        obtain ⟨ψ, w1, fr1, p1, hF1, s1, t1⟩ := g1 hok { fr with todo := .code c :: .inLoop c :: k } (.inLoop c :: k) cs (hF.todo _) rfl
        refine ⟨ψ, w1, fr1, p1, hF1, s1, t1.drop rfl ?_⟩
        rintro rfl
        exact hno _ _ _ rfl
  | scope c =>
    intro φ G w hw hr ha hf
    refine ⟨elg, fun hok fr k cs hF ht => ?_⟩
    simp only [okC] at hok
    simp only [hx] at e
    obtain ⟨_, g1⟩ := ih _ (Nat.le_refl _) _ _ _ _ _ _ e φ G w hw hr ha hf
    obtain ⟨ψ, w1, fr1, p1, hF1, s1, t1⟩ := g1 hok { fr with todo := .code c :: .inScope c :: k } (.inScope c :: k) cs (hF.todo _) rfl
    have s0 := st_scope (P := P) (cs := cs) (w := w) hF.mode ht
    cases x with
    | normal => exact ⟨ψ, w1, { fr1 with todo := k }, p1, hF1.todo k, (Steps.head s0 s1).trans (.one (st_drop hF1.mode t1 rfl)), rfl⟩
    | exit i => exact ⟨ψ, w1, fr1, p1, hF1, Steps.head s0 s1, t1.drop rfl (by simp)⟩
    | ret => exact ⟨ψ, w1, fr1, p1, hF1, Steps.head s0 s1, t1.drop rfl (by simp)⟩
  | region id ops d =>
    cases d with
    | false =>
      intro φ G w hw hr ha hf
      refine ⟨elg, fun hok fr k cs hF ht => ?_⟩
      simp only [okC] at hok
      simp only [hx] at e
      have hxn := ops_normal _ e
      subst hxn
      obtain ⟨_, g1⟩ := ih _ (Nat.le_refl _) _ _ _ _ _ _ e φ G w hw hr ha hf
      obtain ⟨ψ, w1, fr1, p1, hF1, s1, t1⟩ := g1 hok { fr with todo := .inRegion ops (List.range ops.size) :: k } k cs (List.range ops.size) (hF.todo _) rfl (by
        apply List.ext_getElem
        · simp
        · intro i h1 h2
          simp at h1
          simp [h1])
      exact ⟨ψ, w1, fr1, p1, hF1, Steps.head (st_region hF.mode ht) s1, t1⟩
    | true =>
      simp only [hx] at e
      cases hb : apartT ops && hx.noSelA ops with
      | false => simp [hb] at e
      | true =>
        simp only [hb, cond_true] at e
        simp only [Bool.and_eq_true] at hb
        split at e
        · rename_i rs1 F1 h1 l1 e1
          cases e
          obtain ⟨tr, c1, c2, c3, c4⟩ := drw_chain (n := n) (trk := trk) (fun m hm o F h v h' ℓ q => ⟨ih m (by omega) _ _ _ _ _ _ q, hx_up E.pu _ _ _ _ _ _ _ q⟩) _ _ _ _ _ n (Nat.le_refl _) _ _ _ _ e1
          simp only [List.reverse_nil, List.nil_append] at c2
          subst c2 c3
          exact region_good E.mx c1 c4 hb.1 hb.2 id
        · cases e
  | rangeFunc f ps a b => simp at hnr
  | goto l => simp only [hx] at e; cases e
  | refuse y => simp only [hx] at e; cases e

end
end Go.Proofs.YthiaocbikmiciaaGreatDoor.H
