/- The machine that is run by the kernel, part 6: no claim of its own. -/
import Derived.Test.YthiaocbikmiciaaGreatDoorH5
namespace Go.Proofs.YthiaocbikmiciaaGreatDoor.H
section
variable {P : Program} {nG : Nat} {prim : Prims} {trk : Bool} {h : HS} {φ : Phi} {G : AMap} {w : World}

/-- What a step comes to, whatever the abstract states were called. -/
structure PostG (P : Program) (nG : Nat) (N : Nat → Prop) (φ : Phi) (G : AMap) (w : World) (ψ : Phi) (G' : AMap) (w' : World) : Prop where
  le : Le φ ψ
  only : ∀ id L, ψ id = some L → φ id = none → N id
  rel : Rel P nG ψ G' w'
  kept : ∀ b, b < w.heap.size → (∀ id o L, G id = some o → φ id = some L → L.blk ≠ b) → w'.heap[b]? = w.heap[b]?
  orig : ∀ id o L, G' id = some o → ψ id = some L → L.blk < w.heap.size → ∃ id₀ o₀ L₀, G id₀ = some o₀ ∧ φ id₀ = some L₀ ∧ L₀.blk = L.blk
  size : w.heap.size ≤ w'.heap.size
  tape : w'.tape = w.tape
  os : w'.os = w.os
  out : w'.output = w.output

theorem Post.toG {ℓ : Log} {h' : HS} {ψ : Phi} {w' : World} (p : Post P nG ℓ h h' φ G w ψ w') : PostG P nG (fun id => h.next ≤ id ∧ id < h'.next) φ G w ψ (Upd ℓ h h' G) w' :=
  ⟨p.le, p.only, p.rel, p.kept, p.orig, p.size, p.tape, p.os, p.out⟩

theorem PostG.toPost {ℓ : Log} {h' : HS} {ψ : Phi} {w' : World} (p : PostG P nG (fun id => h.next ≤ id ∧ id < h'.next) φ G w ψ (Upd ℓ h h' G) w') (hl : LogOK ℓ h h') (hw : WF h → WF h') : Post P nG ℓ h h' φ G w ψ w' :=
  ⟨p.le, p.only, p.rel, p.kept, p.orig, p.size, p.tape, p.os, p.out, hl, hw⟩

theorem PostG.refl (r : Rel P nG φ G w) : PostG P nG (fun _ => False) φ G w φ G w :=
  ⟨Le.refl _, fun id L h1 h2 => by simp [h1] at h2, r, fun _ _ _ => rfl, fun id o L h1 h2 _ => ⟨id, o, L, h1, h2, rfl⟩, Nat.le_refl _, rfl, rfl, rfl⟩

theorem PostG.draw (r : Rel P nG φ G w) : PostG P nG (fun _ => False) φ G w φ G { w with drawn := w.drawn + 1 } :=
  ⟨Le.refl _, fun id L h1 h2 => by simp [h1] at h2, r.mono_heap fun _ _ _ _ _ => rfl, fun _ _ _ => rfl, fun id o L h1 h2 _ => ⟨id, o, L, h1, h2, rfl⟩, Nat.le_refl _, rfl, rfl, rfl⟩

theorem PostG.trans {N N' M : Nat → Prop} {ψ χ : Phi} {G' G'' : AMap} {w₁ w₂ : World} (p : PostG P nG N φ G w ψ G' w₁) (q : PostG P nG N' ψ G' w₁ χ G'' w₂) (hN : ∀ id, N id → M id) (hN' : ∀ id, N' id → M id) : PostG P nG M φ G w χ G'' w₂ := by
  refine ⟨p.le.trans q.le, ?_, q.rel, ?_, ?_, Nat.le_trans p.size q.size, q.tape.trans p.tape, q.os.trans p.os, q.out.trans p.out⟩
  · intro id L hc hn
    cases e : ψ id with
    | none => exact hN' id (q.only id L hc e)
    | some K => exact hN id (p.only id K e hn)
  · intro k hk hno
    rw [q.kept k (Nat.lt_of_lt_of_le hk p.size) ?_, p.kept k hk hno]
    intro id o L hG hψ he
    obtain ⟨id₀, o₀, L₀, a1, a2, a3⟩ := p.orig id o L hG hψ (he ▸ hk)
    exact hno id₀ o₀ L₀ a1 a2 (a3.trans he)
  · intro id o L hG hχ hlt
    obtain ⟨id₁, o₁, L₁, a1, a2, a3⟩ := q.orig id o L hG hχ (Nat.lt_of_lt_of_le hlt p.size)
    obtain ⟨id₀, o₀, L₀, b1, b2, b3⟩ := p.orig id₁ o₁ L₁ a1 a2 (a3 ▸ hlt)
    exact ⟨id₀, o₀, L₀, b1, b2, b3.trans a3⟩

def RoR (φ : Phi) : Option Nat → Option Nat → Prop
  | none, r => r = none
  | some id, r => ∃ L, φ id = some L ∧ r = some L.blk

theorem RoR.mono {φ ψ : Phi} (hl : Le φ ψ) {a b : Option Nat} (h : RoR φ a b) : RoR ψ a b := by
  cases a with
  | none => exact h
  | some id => obtain ⟨L, h1, h2⟩ := h; exact ⟨L, hl _ _ h1, h2⟩

/-- An abstract frame and a concrete one. -/
structure FrR (φ : Phi) (F : Fr) (fr : Frame) : Prop where
  tmps : TR φ F.n F.tmps fr.tmps
  mode : fr.mode = .run
  fn : fr.fn = F.fn
  kind : fr.kind = .normal
  round : RoR φ F.round fr.roundOf
  defers : DsR φ F.defers fr.defers

theorem FrR.mono {ψ : Phi} {F : Fr} {fr : Frame} (hl : Le φ ψ) (h : FrR φ F fr) : FrR ψ F fr := ⟨h.tmps.mono hl, h.mode, h.fn, h.kind, h.round.mono hl, h.defers.mono hl⟩
theorem FrR.todo {F : Fr} {fr : Frame} (h : FrR φ F fr) (t : List Item) : FrR φ F { fr with todo := t } := ⟨h.tmps, h.mode, h.fn, h.kind, h.round, h.defers⟩

theorem eval_rel (r : Rel P nG φ G w) {F : Fr} {fr : Frame} (ht : TR φ F.n F.tmps fr.tmps) {x : Operand} (hx : okX nG x = true) : VR φ (F.eval x) (fr.eval x) := by
  cases x with
  | tmp t => exact ht.2 t
  | const v => exact VR.of_flat 9 hx
  | global g =>
    obtain ⟨L, h1, h2, h3⟩ := r.glob g (by simpa [okX, Nat.blt_eq] using hx)
    have := VR.pointer (φ := φ) (id := g) 0 h1
    simpa [Fr.eval, Frame.eval, h2, h3] using this
  | func f => exact .func rfl rfl rfl (fun i a => by simp at a) (fun i a => by simp at a)

theorem put_rel {F F1 : Fr} {fr : Frame} {o : Oper} {v v' : Value} {all : Array Oper} {rest : List Nat} {k : List Item} (h : FrR φ F fr) (hp : F.put o.dst v = some F1) (hv : VR φ v v') : FrR φ F1 (Frame.put fr o v' all rest k) := by
  unfold Fr.put at hp
  cases hd : o.dst with
  | none =>
    simp only [hd, Option.some.injEq] at hp
    subst hp
    exact ⟨by simpa [Frame.put, hd] using h.tmps, h.mode, h.fn, h.kind, h.round, h.defers⟩
  | some d =>
    simp only [hd] at hp
    cases hb : Nat.blt d F.n && Nat.blt d keyMax with
    | false => simp [hb] at hp
    | true =>
      simp only [hb, cond_true, Option.some.injEq] at hp
      subst hp
      simp only [Bool.and_eq_true] at hb
      have h1 : d < F.n := by simpa [Nat.blt_eq] using hb.1
      have h2 : d < keyMax := by simpa [Nat.blt_eq] using hb.2
      exact ⟨by simpa [Frame.put, hd] using h.tmps.set h1 h2 hv, h.mode, h.fn, h.kind, h.round, h.defers⟩

theorem wanted_rel {F : Fr} {fr : Frame} (ht : TR φ F.n F.tmps fr.tmps) {all : Array Oper} {o : Oper} : Region.wanted o (yielded all fr.tmps) = F.wanted all o := by
  unfold Region.wanted Fr.wanted
  cases hg : o.guard with
  | none => rfl
  | some p =>
    obtain ⟨j, want⟩ := p
    simp only
    unfold yielded
    cases hd : (all[j]?).bind (·.dst) with
    | none => simp
    | some d =>
      simp only [Option.bind_some]
      have hv := ht.2 d
      by_cases hlt : d < F.n
      · have hs : d < fr.tmps.size := by rw [ht.1]; exact hlt
        have hb : Nat.blt d F.n = true := by simpa [Nat.blt_eq] using hlt
        have he : fr.tmps[d]? = some (fr.tmps.getD d undef) := by simp [hs]
        rw [he, hb]
        generalize (F.tmps.get d).getD undef = a at hv
        generalize fr.tmps.getD d undef = b at hv
        cases hv <;> try (simp; done)
        rename_i hb1 hb2
        cases b <;> simp at hb2 ⊢
      · have hs : ¬ d < fr.tmps.size := by rw [ht.1]; exact hlt
        have hb : Nat.blt d F.n = false := by
          cases q : Nat.blt d F.n with
          | false => rfl
          | true => exact absurd (by simpa [Nat.blt_eq] using q) hlt
        have he : fr.tmps[d]? = none := Array.getElem?_eq_none (Nat.le_of_not_lt hs)
        rw [he, hb]
        cases (F.tmps.get d).getD undef <;> rfl

theorem hop_notDefer {ρ : Operand → Value} {o : Oper} {x : HNext × HS × Log} (h0 : hop P trk ρ o h = some x) : notDefer o.op = true := by
  cases ho : o.op <;> first
    | rfl
    | (simp only [hop, ho] at h0; cases h0)

/-- How code ends. -/
def Ends : HX → List Item → List Item → Prop
  | .normal, k, t => t = k
  | .exit id, k, t => ∃ k2, t = .code (.exit id) :: k2 ∧ exitTo id k2 = exitTo id k
  | .ret, _, t => ∃ k2, t = .code .ret :: k2

/-- What a task's result says of the real machine. -/
def Good (P : Program) (nG : Nat) (trk : Bool) (tk : Tk) (h : HS) (rs : Rs) (h' : HS) (ℓ : Log) : Prop :=
  ∀ φ G w, WF h → Rel P nG φ G w → Agree ℓ h G → Fresh φ G h h' → ℓ.isSome = trk ∧
    match tk, rs with
    | .code c F, .code x F' => okC nG c = true → ∀ fr k cs, FrR φ F fr → fr.todo = .code c :: k →
        ∃ ψ w' fr', Post P nG ℓ h h' φ G w ψ w' ∧ FrR ψ F' fr' ∧ Steps P (lone fr cs w) (lone fr' cs w') ∧ Ends x k fr'.todo
    | .ops l all F, .code _ F' => l.all (okOp nG) = true → ∀ fr k cs idxs, FrR φ F fr → fr.todo = .inRegion all idxs :: k → idxs.map (all[·]?) = l.map some →
        ∃ ψ w' fr', Post P nG ℓ h h' φ G w ψ w' ∧ FrR ψ F' fr' ∧ Steps P (lone fr cs w) (lone fr' cs w') ∧ fr'.todo = k
    | .op o F, .val v => ∀ fr k cs all i rest, fr.mode = .run → fr.todo = .inRegion all (i :: rest) :: k → all[i]? = some o → Region.wanted o (yielded all fr.tmps) = true →
        (∀ x ∈ o.op.operands, VR φ (F.eval x) (fr.eval x)) →
        ∃ ψ w' v', Post P nG ℓ h h' φ G w ψ w' ∧ VR ψ v v' ∧ Steps P (lone fr cs w) (lone (Frame.put fr o v' all rest k) cs w')
    | .call f args, .val v => ∀ args', LR φ args.toList args'.toList → Calls P f args' w fun e w' => ∃ v' ψ, e = .returned v' ∧ Post P nG ℓ h h' φ G w ψ w' ∧ VR ψ v v'
    | .round id F a b, .val v => okC nG a = true → okC nG b = true → ∀ L c cs tmps', φ id = some L → TR φ F.n F.tmps tmps' →
        ∃ ψ w' v', Post P nG ℓ h h' φ G w ψ w' ∧ VR ψ v v' ∧ Steps P (lone (Frame.round L.blk F.fn tmps' a b .normal) (c :: cs) w) (lone (c.finish v') cs w')
    | _, _ => True

end
end Go.Proofs.YthiaocbikmiciaaGreatDoor.H
namespace Go.Proofs.YthiaocbikmiciaaGreatDoor.H
section
variable {P : Program} {nG : Nat} {prim : Prims} {trk : Bool} {h : HS} {φ : Phi} {G : AMap} {w : World}

/-- What one operation of a drawing region did. -/
structure Ev where
  r : Rec
  v : Value
  ran : Bool
  F : Fr
  h : HS

/-- The operations of a region, one behind the other, in the order of the text. -/
inductive Ch (P : Program) (nG : Nat) (all : Array Oper) : List Oper → Fr → HS → List Ev → Fr → HS → Prop
  | nil (F : Fr) (h : HS) : Ch P nG all [] F h [] F h
  | op {o : Oper} {rest : List Oper} {F F1 F' : Fr} {h h1 h' : HS} {v : Value} {t u : List Nat} {tr : List Ev} (h0 : F.wanted all o = true) (hg : Good P nG true (.op o F) h (.val v) h1 (some (t, u)))
      (hp : F.put o.dst v = some F1) (hs : soundR ⟨h.next, h1.next, t, u⟩ = true) (hu : h.next ≤ h1.next) (hr : Ch P nG all rest F1 h1 tr F' h') : Ch P nG all (o :: rest) F h (⟨⟨h.next, h1.next, t, u⟩, v, true, F, h⟩ :: tr) F' h'
  | skip {o : Oper} {rest : List Oper} {F F1 F' : Fr} {h h' : HS} {tr : List Ev} (h0 : F.wanted all o = false) (hp : F.put o.dst undef = some F1) (hr : Ch P nG all rest F1 h tr F' h') :
      Ch P nG all (o :: rest) F h (⟨⟨h.next, h.next, [], []⟩, undef, false, F, h⟩ :: tr) F' h'

def trLog (trk : Bool) (tr : List Ev) : Log := bif trk then some (tr.flatMap (·.r.t), tr.flatMap (·.r.w)) else none

theorem drw_chain {n : Nat} (ih : ∀ m, m < n → ∀ o F h v h' ℓ, hx P nG prim m true (.op o F) h = some (.val v, h', ℓ) → Good P nG true (.op o F) h (.val v) h' ℓ ∧ h.next ≤ h'.next) :
    ∀ (l : List Oper) (all : Array Oper) (F : Fr) (acc : List Rec) (h : HS) (m : Nat), m ≤ n → ∀ rs F' h' ℓ, hx P nG prim m trk (.drw l all F acc) h = some (.recs rs F', h', ℓ) →
      ∃ tr, Ch P nG all l F h tr F' h' ∧ rs = acc.reverse ++ tr.map (·.r) ∧ ℓ = trLog trk tr ∧ indep all rs = true
  | [], all, F, acc, h, m, hm, rs, F', h', ℓ, he => by
    cases m with
    | zero => simp [hx] at he
    | succ m =>
      simp only [hx] at he
      cases hi : indep all acc.reverse with
      | false => simp [hi] at he
      | true =>
        simp only [hi, cond_true, Option.some.injEq, Prod.mk.injEq, Rs.recs.injEq] at he
        obtain ⟨⟨rfl, rfl⟩, rfl, rfl⟩ := he
        exact ⟨[], .nil _ _, by simp, by cases trk <;> rfl, hi⟩
  | o :: l, all, F, acc, h, m, hm, rs, F', h', ℓ, he => by
    cases m with
    | zero => simp [hx] at he
    | succ m =>
      simp only [hx] at he
      cases hw : F.wanted all o with
      | true =>
        simp only [hw, cond_true] at he
        cases h1 : hx P nG prim m true (.op o F) h with
        | none => simp [h1] at he
        | some x =>
          obtain ⟨r1, s1, l1⟩ := x
          cases r1 <;> cases l1 <;> simp only [h1] at he <;> try (cases he; done)
          rename_i v tu
          obtain ⟨t, u⟩ := tu
          simp only at he
          cases hp : F.put o.dst v with
          | none => simp [hp] at he
          | some F1 =>
            simp only [hp] at he
            cases hs : soundR ⟨h.next, s1.next, t, u⟩ with
            | false => simp [hs] at he
            | true =>
              simp only [hs, cond_true] at he
              unfold pre at he
              obtain ⟨y, e1, e2⟩ := Option.map_eq_some_iff.1 he
              obtain ⟨ry, sy, ly⟩ := y
              simp only [Prod.mk.injEq] at e2
              obtain ⟨rfl, rfl, rfl⟩ := e2
              obtain ⟨tr, c1, c2, c3, c4⟩ := drw_chain ih l all F1 _ s1 m (by omega) rs F' sy ly e1
              refine ⟨⟨⟨h.next, s1.next, t, u⟩, v, true, F, h⟩ :: tr, .op hw (ih m (by omega) _ _ _ _ _ _ h1).1 hp hs (ih m (by omega) _ _ _ _ _ _ h1).2 c1, by simp [c2], ?_, c4⟩
              subst c3
              cases trk <;> simp [trLog, Log.app]
      | false =>
        simp only [hw, cond_false] at he
        cases hp : F.put o.dst undef with
        | none => simp [hp] at he
        | some F1 =>
          simp only [hp] at he
          unfold pre at he
          obtain ⟨y, e1, e2⟩ := Option.map_eq_some_iff.1 he
          obtain ⟨ry, sy, ly⟩ := y
          simp only [Prod.mk.injEq] at e2
          obtain ⟨rfl, rfl, rfl⟩ := e2
          obtain ⟨tr, c1, c2, c3, c4⟩ := drw_chain ih l all F1 _ h m (by omega) rs F' sy ly e1
          refine ⟨⟨⟨h.next, h.next, [], []⟩, undef, false, F, h⟩ :: tr, .skip hw hp c1, by simp [c2], ?_, c4⟩
          subst c3
          cases trk <;> simp [trLog, Log.app, Log.nil]

theorem Ch.length {all : Array Oper} {l : List Oper} {F F' : Fr} {h h' : HS} {tr : List Ev} (c : Ch P nG all l F h tr F' h') : tr.length = l.length := by
  induction c with
  | nil => rfl
  | op _ _ _ _ _ _ ih => simp [ih]
  | skip _ _ _ ih => simp [ih]

/-- The state ahead of the j-th operation. -/
def trF (tr : List Ev) (F' : Fr) (j : Nat) : Fr := (tr[j]?.map (·.F)).getD F'
def trH (tr : List Ev) (h' : HS) (j : Nat) : HS := (tr[j]?.map (·.h)).getD h'

structure Link (P : Program) (nG : Nat) (all : Array Oper) (o : Oper) (e : Ev) (F1 : Fr) (h1 : HS) : Prop where
  put : e.F.put o.dst e.v = some F1
  want : e.F.wanted all o = e.ran
  good : e.ran = true → Good P nG true (.op o e.F) e.h (.val e.v) h1 (some (e.r.t, e.r.w))
  idle : e.ran = false → h1 = e.h ∧ e.r.t = [] ∧ e.r.w = [] ∧ e.v = undef
  lo : e.r.lo = e.h.next
  hi : e.r.hi = h1.next
  sound : soundR e.r = true

theorem Ch.link {all : Array Oper} {l : List Oper} {F F' : Fr} {h h' : HS} {tr : List Ev} (c : Ch P nG all l F h tr F' h') :
    trF tr F' 0 = F ∧ trH tr h' 0 = h ∧ ∀ j o e, l[j]? = some o → tr[j]? = some e → Link P nG all o e (trF tr F' (j + 1)) (trH tr h' (j + 1)) := by
  induction c with
  | nil F h => exact ⟨rfl, rfl, fun j o e h1 => by simp at h1⟩
  | op h0 hg hp hs hu hr ih =>
    rename_i o rest F F1 F' h h1 h' v t u tr
    obtain ⟨i1, i2, i3⟩ := ih
    refine ⟨rfl, rfl, fun j o' e e1 e2 => ?_⟩
    cases j with
    | zero =>
      simp only [List.getElem?_cons_zero, Option.some.injEq] at e1 e2
      subst e1 e2
      have a1 : trF (⟨⟨h.next, h1.next, t, u⟩, v, true, F, h⟩ :: tr) F' (0 + 1) = F1 := by rw [← i1]; simp [trF]
      have a2 : trH (⟨⟨h.next, h1.next, t, u⟩, v, true, F, h⟩ :: tr) h' (0 + 1) = h1 := by rw [← i2]; simp [trH]
      rw [a1, a2]
      exact ⟨hp, h0, fun _ => hg, (fun e => by cases e), rfl, rfl, hs⟩
    | succ j =>
      simp only [List.getElem?_cons_succ] at e1 e2
      have := i3 j o' e e1 e2
      simpa [trF, trH] using this
  | skip h0 hp hr ih =>
    rename_i o rest F F1 F' h h' tr
    obtain ⟨i1, i2, i3⟩ := ih
    refine ⟨rfl, rfl, fun j o' e e1 e2 => ?_⟩
    cases j with
    | zero =>
      simp only [List.getElem?_cons_zero, Option.some.injEq] at e1 e2
      subst e1 e2
      have a1 : trF (⟨⟨h.next, h.next, [], []⟩, undef, false, F, h⟩ :: tr) F' (0 + 1) = F1 := by rw [← i1]; simp [trF]
      have a2 : trH (⟨⟨h.next, h.next, [], []⟩, undef, false, F, h⟩ :: tr) h' (0 + 1) = h := by rw [← i2]; simp [trH]
      rw [a1, a2]
      exact ⟨hp, h0, (fun e => by cases e), fun _ => ⟨rfl, rfl, rfl, rfl⟩, rfl, rfl, by simp [soundR]⟩
    | succ j =>
      simp only [List.getElem?_cons_succ] at e1 e2
      have := i3 j o' e e1 e2
      simpa [trF, trH] using this


/-- Does the j-th operation write the block, or make it? -/
def Wr (tr : List Ev) (h' : HS) (j : Nat) (id : Nat) : Prop := (∃ e, tr[j]? = some e ∧ id ∈ e.r.w) ∨ ((trH tr h' j).next ≤ id ∧ id < (trH tr h' (j + 1)).next)

open Classical in
/-- Memory, when just these of the first n operations have been done. -/
noncomputable def GS (tr : List Ev) (h' : HS) (G : AMap) (S : Nat → Prop) : Nat → AMap
  | 0 => G
  | j + 1 => fun id => if S j ∧ Wr tr h' j id then (trH tr h' (j + 1)).m.get id else GS tr h' G S j id

open Classical in
/-- Temporaries, likewise. -/
noncomputable def TS (tr : List Ev) (all : Array Oper) (F : Fr) (S : Nat → Prop) : Nat → Nat → Value
  | 0 => fun d => (F.tmps.get d).getD undef
  | j + 1 => fun d => if S j ∧ (all[j]?).bind (·.dst) = some d then (tr[j]?.map (·.v)).getD undef else TS tr all F S j d

/-- What is known of every operation of the region, as the text has them. -/
structure Text (P : Program) (nG : Nat) (all : Array Oper) (tr : List Ev) (F F' : Fr) (h h' : HS) : Prop where
  len : tr.length = all.size
  F0 : trF tr F' 0 = F
  h0 : trH tr h' 0 = h
  Fm : trF tr F' all.size = F'
  hm : trH tr h' all.size = h'
  link : ∀ j o e, all[j]? = some o → tr[j]? = some e → Link P nG all o e (trF tr F' (j + 1)) (trH tr h' (j + 1))
  log : ∀ j e, tr[j]? = some e → LogOK (some (e.r.t, e.r.w)) (trH tr h' j) (trH tr h' (j + 1)) ∧ WF (trH tr h' j)

section
variable {all : Array Oper} {tr : List Ev} {F F' : Fr} {h' : HS}

theorem Text.get (T : Text P nG all tr F F' h h') {j : Nat} (hj : j < all.size) : ∃ o e, all[j]? = some o ∧ tr[j]? = some e ∧ trF tr F' j = e.F ∧ trH tr h' j = e.h := by
  have h1 : j < tr.length := by rw [T.len]; exact hj
  refine ⟨all[j], tr[j], by simp [hj], by simp [h1], ?_, ?_⟩
  · simp [trF, h1]
  · simp [trH, h1]

theorem Text.mono (T : Text P nG all tr F F' h h') : ∀ {i j : Nat}, i ≤ j → j ≤ all.size → (trH tr h' i).next ≤ (trH tr h' j).next := by
  intro i j hij
  induction j with
  | zero => intro _; have : i = 0 := by omega
            subst this; exact Nat.le_refl _
  | succ j ih =>
    intro hj
    by_cases e : i = j + 1
    · subst e; exact Nat.le_refl _
    · have h1 := ih (by omega) (by omega)
      obtain ⟨o, ev, a1, a2, _⟩ := T.get (j := j) (by omega)
      have := (T.log j ev a2).1.1
      omega

/-- Memory ahead of the j-th operation, where it was as it ought to be or where one ahead has written. -/
theorem Text.mem (T : Text P nG all tr F F' h h') : ∀ (j : Nat), j ≤ all.size → ∀ id, (G id = h.m.get id ∨ ∃ i, i < j ∧ Wr tr h' i id) → GS tr h' G (fun _ => True) j id = (trH tr h' j).m.get id := by
  intro j
  induction j with
  | zero =>
    intro _ id hc
    rcases hc with hc | ⟨i, hi, _⟩
    · rw [T.h0]; exact hc
    · omega
  | succ j ih =>
    intro hj id hc
    simp only [GS]
    by_cases hw : Wr tr h' j id
    · rw [if_pos ⟨trivial, hw⟩]
    · rw [if_neg (by simp [hw])]
      rw [ih (by omega) id ?_]
      · obtain ⟨o, ev, a1, a2, a3, a4⟩ := T.get (j := j) (by omega)
        have hl := (T.log j ev a2).1
        exact (hl.2 id (fun e => hw (.inl ⟨ev, a2, e⟩)) (fun e => hw (.inr e))).symm
      · rcases hc with hc | ⟨i, hi, hwi⟩
        · exact .inl hc
        · refine .inr ⟨i, ?_, hwi⟩
          rcases Nat.lt_or_ge i j with q | q
          · exact q
          · have : i = j := by omega
            subst this; exact absurd hwi hw

theorem Text.tmp (T : Text P nG all tr F F' h h') : ∀ (j : Nat), j ≤ all.size → ∀ d, TS tr all F (fun _ => True) j d = ((trF tr F' j).tmps.get d).getD undef ∧ (trF tr F' j).n = F.n := by
  intro j
  induction j with
  | zero => intro _ d; rw [T.F0]; exact ⟨rfl, rfl⟩
  | succ j ih =>
    intro hj d
    obtain ⟨o, ev, a1, a2, a3, a4⟩ := T.get (j := j) (by omega)
    have L := T.link j o ev a1 a2
    obtain ⟨i1, i2⟩ := ih (by omega) d
    have hp := L.put
    rw [← a3] at hp
    simp only [TS, a1, a2, Option.bind_some, Option.map_some, Option.getD_some, true_and]
    unfold Fr.put at hp
    cases hd : o.dst with
    | none =>
      simp only [hd, Option.some.injEq] at hp
      rw [if_neg (by simp), ← hp]
      exact ⟨i1, i2⟩
    | some d' =>
      simp only [hd] at hp
      cases hb : Nat.blt d' (trF tr F' j).n && Nat.blt d' keyMax with
      | false => simp [hb] at hp
      | true =>
        simp only [hb, cond_true, Option.some.injEq] at hp
        simp only [Bool.and_eq_true] at hb
        have hk : d' < keyMax := by simpa [Nat.blt_eq] using hb.2
        rw [← hp]
        refine ⟨?_, i2⟩
        simp only [Tr.get_put _ _ _ _ hk]
        by_cases e : d = d'
        · subst e; simp
        · rw [if_neg (by simpa using Ne.symm e), if_neg e]; exact i1

open Classical in
/-- One operation more, that has none behind it which meddles. -/
theorem GS_add {S : Nat → Prop} {j id : Nat} (hS : ¬ S j) (hno : Wr tr h' j id → ∀ i, j < i → S i → ¬ Wr tr h' i id) : ∀ n, GS tr h' G (fun i => S i ∨ i = j) n id = if j < n ∧ Wr tr h' j id then (trH tr h' (j + 1)).m.get id else GS tr h' G S n id := by
  intro n
  induction n with
  | zero => simp [GS]
  | succ n ih =>
    simp only [GS]
    by_cases e : n = j
    · subst e
      by_cases hw : Wr tr h' n id
      · rw [if_pos ⟨.inr rfl, hw⟩, if_pos ⟨by omega, hw⟩]
      · rw [if_neg (by simp [hw]), if_neg (by simp [hw]), if_neg (by simp [hw]), ih, if_neg (by simp [hw])]
    · by_cases hs : S n ∧ Wr tr h' n id
      · rw [if_pos ⟨.inl hs.1, hs.2⟩]
        by_cases c : j < n + 1 ∧ Wr tr h' j id
        · exact absurd hs.2 (hno c.2 n (by omega) hs.1)
        · rw [if_neg c, if_pos hs]
      · rw [if_neg (fun q => q.1.elim (fun a => hs ⟨a, q.2⟩) (fun a => e a)), ih, if_neg hs]
        by_cases c : j < n ∧ Wr tr h' j id
        · rw [if_pos c, if_pos ⟨by omega, c.2⟩]
        · rw [if_neg c, if_neg (by rintro ⟨a, b⟩; exact c ⟨by omega, b⟩)]

open Classical in
theorem TS_add {S : Nat → Prop} {j d : Nat} (hS : ¬ S j) (hno : (all[j]?).bind (·.dst) = some d → ∀ i, j < i → S i → (all[i]?).bind (·.dst) ≠ some d) : ∀ n, TS tr all F (fun i => S i ∨ i = j) n d = if j < n ∧ (all[j]?).bind (·.dst) = some d then (tr[j]?.map (·.v)).getD undef else TS tr all F S n d := by
  intro n
  induction n with
  | zero => simp [TS]
  | succ n ih =>
    simp only [TS]
    by_cases e : n = j
    · subst e
      by_cases hw : (all[n]?).bind (·.dst) = some d
      · rw [if_pos ⟨.inr rfl, hw⟩, if_pos ⟨by omega, hw⟩]
      · rw [if_neg (by simp [hw]), if_neg (by simp [hw]), if_neg (by simp [hw]), ih, if_neg (by simp [hw])]
    · by_cases hs : S n ∧ (all[n]?).bind (·.dst) = some d
      · rw [if_pos ⟨.inl hs.1, hs.2⟩]
        by_cases c : j < n + 1 ∧ (all[j]?).bind (·.dst) = some d
        · exact absurd hs.2 (hno c.2 n (by omega) hs.1)
        · rw [if_neg c, if_pos hs]
      · rw [if_neg (fun q => q.1.elim (fun a => hs ⟨a, q.2⟩) (fun a => e a)), ih, if_neg hs]
        by_cases c : j < n ∧ (all[j]?).bind (·.dst) = some d
        · rw [if_pos c, if_pos ⟨by omega, c.2⟩]
        · rw [if_neg c, if_neg (by rintro ⟨a, b⟩; exact c ⟨by omega, b⟩)]

/-- What the operations ahead have made of a block is there, if none behind has touched it. -/
theorem GS_same {S : Nat → Prop} {j id m : Nat} (hjm : j ≤ m) (h1 : ∀ i, i < j → Wr tr h' i id → S i) (h2 : ∀ i, j ≤ i → i < m → S i → ¬ Wr tr h' i id) : GS tr h' G S m id = GS tr h' G (fun _ => True) j id := by
  have key : ∀ n, n ≤ j → GS tr h' G S n id = GS tr h' G (fun _ => True) n id := by
    intro n
    induction n with
    | zero => intro _; rfl
    | succ n ih =>
      intro hn
      simp only [GS]
      by_cases hw : Wr tr h' n id
      · rw [if_pos ⟨h1 n (by omega) hw, hw⟩, if_pos ⟨trivial, hw⟩]
      · rw [if_neg (by simp [hw]), if_neg (by simp [hw]), ih (by omega)]
  have key2 : ∀ n, j ≤ n → n ≤ m → GS tr h' G S n id = GS tr h' G S j id := by
    intro n
    induction n with
    | zero => intro a _; have : j = 0 := by omega
              subst this; rfl
    | succ n ih =>
      intro a b
      by_cases e : j = n + 1
      · rw [e]
      · simp only [GS]
        rw [if_neg (by rintro ⟨c, d⟩; exact h2 n (by omega) (by omega) c d), ih (by omega) (by omega)]
  rw [key2 m hjm (Nat.le_refl _), key j (Nat.le_refl _)]

theorem TS_same {S : Nat → Prop} {j d m : Nat} (hjm : j ≤ m) (h1 : ∀ i, i < j → (all[i]?).bind (·.dst) = some d → S i) (h2 : ∀ i, j ≤ i → i < m → S i → (all[i]?).bind (·.dst) ≠ some d) : TS tr all F S m d = TS tr all F (fun _ => True) j d := by
  have key : ∀ n, n ≤ j → TS tr all F S n d = TS tr all F (fun _ => True) n d := by
    intro n
    induction n with
    | zero => intro _; rfl
    | succ n ih =>
      intro hn
      simp only [TS]
      by_cases hw : (all[n]?).bind (·.dst) = some d
      · rw [if_pos ⟨h1 n (by omega) hw, hw⟩, if_pos ⟨trivial, hw⟩]
      · rw [if_neg (by simp [hw]), if_neg (by simp [hw]), ih (by omega)]
  have key2 : ∀ n, j ≤ n → n ≤ m → TS tr all F S n d = TS tr all F S j d := by
    intro n
    induction n with
    | zero => intro a _; have : j = 0 := by omega
              subst this; rfl
    | succ n ih =>
      intro a b
      by_cases e : j = n + 1
      · rw [e]
      · simp only [TS]
        rw [if_neg (by rintro ⟨c, q⟩; exact h2 n (by omega) (by omega) c q), ih (by omega) (by omega)]
  rw [key2 m hjm (Nat.le_refl _), key j (Nat.le_refl _)]

end
end
end Go.Proofs.YthiaocbikmiciaaGreatDoor.H
namespace Go.Proofs.YthiaocbikmiciaaGreatDoor.H
section
variable {P : Program} {nG : Nat} {prim : Prims} {trk : Bool} {h h' : HS} {φ : Phi} {G : AMap} {w : World} {all : Array Oper} {tr : List Ev} {F F' : Fr}

theorem orFold_testBit (acc : Array Nat) (i : Nat) : ∀ (es : List Edge) (s : Nat), (es.foldl (fun s e => if Region.binds .any e then s ||| 2 ^ e.on ||| acc.getD e.on 0 else s) s).testBit i = true →
    s.testBit i = true ∨ ∃ e ∈ es, Region.binds .any e = true ∧ (e.on = i ∨ (acc.getD e.on 0).testBit i = true)
  | [], s, h => .inl h
  | e :: es, s, h => by
    simp only [List.foldl_cons] at h
    rcases orFold_testBit acc i es _ h with h1 | ⟨e', h1, h2, h3⟩
    · cases hb : Region.binds .any e with
      | false => simp [hb] at h1; exact .inl h1
      | true =>
        simp only [hb, if_true, Nat.testBit_or, Bool.or_eq_true] at h1
        rcases h1 with (h1 | h1) | h1
        · exact .inl h1
        · refine .inr ⟨e, by simp, hb, .inl ?_⟩
          simpa [Nat.testBit_two_pow] using h1
        · exact .inr ⟨e, by simp, hb, .inr h1⟩
    · exact .inr ⟨e', by simp [h1], h2, h3⟩

theorem before_closed (S : Nat → Prop) (hS : ∀ (j : Nat) (o : Oper) (e : Edge), all[j]? = some o → S j → e ∈ o.after → Region.binds .any e = true → S e.on) (i j : Nat) (hj : S j)
    (hb : ((Region.before all).getD j 0).testBit i = true) : S i := by
  have key : ∀ (l : List Oper) (acc : Array Nat) (n : Nat), acc.size = n → (∀ (k : Nat) (o : Oper) (e : Edge), l[k]? = some o → S (n + k) → e ∈ o.after → Region.binds .any e = true → S e.on) →
      (∀ k, S k → (acc.getD k 0).testBit i = true → S i) → ∀ k, S k → ((l.foldl (fun acc o => acc.push (o.after.foldl (fun s e => if Region.binds .any e then s ||| 2 ^ e.on ||| acc.getD e.on 0 else s) 0)) acc).getD k 0).testBit i = true → S i := by
    intro l
    induction l with
    | nil => intro acc n _ _ h3 k h4 h5; exact h3 k h4 h5
    | cons o l ih =>
      intro acc n h1 h2 h3 k h4 h5
      refine ih _ (n + 1) (by simp [h1]) (fun k o' e a b c d => h2 (k + 1) o' e (by simpa using a) (by rw [show n + (k + 1) = n + 1 + k from by omega]; exact b) c d) (fun k' q1 q2 => ?_) k h4 h5
      by_cases hk : k' < acc.size
      · refine h3 k' q1 ?_
        have e1 : (acc.push (o.after.foldl (fun s e => if Region.binds .any e then s ||| 2 ^ e.on ||| acc.getD e.on 0 else s) 0)).getD k' 0 = acc.getD k' 0 := by
          simp only [Array.getD_eq_getD_getElem?]
          rw [Array.getElem?_push, if_neg (by omega)]
        rw [e1] at q2; exact q2
      · by_cases hk2 : k' = acc.size
        · subst hk2
          have e1 : (acc.push (o.after.foldl (fun s e => if Region.binds .any e then s ||| 2 ^ e.on ||| acc.getD e.on 0 else s) 0)).getD acc.size 0 = o.after.foldl (fun s e => if Region.binds .any e then s ||| 2 ^ e.on ||| acc.getD e.on 0 else s) 0 := by
            simp
          rw [e1, ← Array.foldl_toList] at q2
          rcases orFold_testBit acc i _ _ q2 with q3 | ⟨e, q3, q4, q5⟩
          · simp at q3
          · have hSe := h2 0 o e (by simp) (by rw [← h1]; exact q1) (by simpa using q3) q4
            rcases q5 with q5 | q5
            · exact q5 ▸ hSe
            · exact h3 e.on hSe q5
        · have e1 : (acc.push (o.after.foldl (fun s e => if Region.binds .any e then s ||| 2 ^ e.on ||| acc.getD e.on 0 else s) 0)).getD k' 0 = 0 := by
            simp only [Array.getD_eq_getD_getElem?]
            rw [Array.getElem?_eq_none (by simp; omega)]
            rfl
          rw [e1] at q2
          simp at q2
  unfold Region.before at hb
  rw [← Array.foldl_toList] at hb
  exact key all.toList #[] 0 rfl (fun k o e a b c d => hS k o e (by simpa using a) (by simpa using b) c d) (fun k _ q => by simp at q) j hj hb

theorem GS_congr {S S' : Nat → Prop} : ∀ n, (∀ j, j < n → (S j ↔ S' j)) → GS tr h' G S n = GS tr h' G S' n
  | 0, _ => rfl
  | n + 1, hs => by
    funext id
    simp only [GS]
    rw [GS_congr n fun j hj => hs j (by omega)]
    by_cases q : S n ∧ Wr tr h' n id
    · rw [if_pos q, if_pos ⟨(hs n (by omega)).1 q.1, q.2⟩]
    · rw [if_neg q, if_neg fun q' => q ⟨(hs n (by omega)).2 q'.1, q'.2⟩]

theorem TS_congr {S S' : Nat → Prop} : ∀ n, (∀ j, j < n → (S j ↔ S' j)) → TS tr all F S n = TS tr all F S' n
  | 0, _ => rfl
  | n + 1, hs => by
    funext d
    simp only [TS]
    rw [TS_congr n fun j hj => hs j (by omega)]
    by_cases q : S n ∧ (all[n]?).bind (·.dst) = some d
    · rw [if_pos q, if_pos ⟨(hs n (by omega)).1 q.1, q.2⟩]
    · rw [if_neg q, if_neg fun q' => q ⟨(hs n (by omega)).2 q'.1, q'.2⟩]

theorem GS_false : ∀ n, GS tr h' G (fun _ => False) n = G
  | 0 => rfl
  | n + 1 => by
    funext id
    simp only [GS, GS_false n]
    rw [if_neg (fun q => q.1)]
theorem TS_false : ∀ n, TS tr all F (fun _ => False) n = fun d => (F.tmps.get d).getD undef
  | 0 => rfl
  | n + 1 => by
    funext d
    simp only [TS, TS_false n]
    rw [if_neg (fun q => q.1)]

/-- Two operations that may change places. -/
def Free (all : Array Oper) (i j : Nat) : Prop := ((Region.before all).getD j 0).testBit i = false

structure Apart (all : Array Oper) (tr : List Ev) : Prop where
  edge : ∀ (j : Nat) (o : Oper) (e : Edge), all[j]? = some o → e ∈ o.after → Region.binds .any e = true → e.on < j
  tmps : ∀ i j x y, i < j → Free all i j → all[i]? = some x → all[j]? = some y → x.apart all y = true
  mem : ∀ i j x y, i < j → Free all i j → tr[i]? = some x → tr[j]? = some y → apartR x.r y.r = true

theorem memN_iff {l : List Nat} {id : Nat} : memN l id = true ↔ id ∈ l := by
  unfold memN
  rw [List.any_eq_true]
  constructor
  · rintro ⟨x, h1, h2⟩
    have := Nat.eq_of_beq_eq_true h2
    subst this; exact h1
  · intro h1; exact ⟨id, h1, Nat.beq_refl id⟩

theorem apartR_spec {a b : Rec} (h0 : apartR a b = true) : (∀ id ∈ a.w, id ∉ b.t) ∧ (∀ id ∈ b.w, id ∉ a.t) ∧ (∀ id ∈ b.t, ¬ (a.lo ≤ id ∧ id < a.hi)) := by
  unfold apartR at h0
  simp only [Bool.and_eq_true, List.all_eq_true, Bool.not_eq_true'] at h0
  obtain ⟨⟨h1, h2⟩, h3⟩ := h0
  refine ⟨fun id hi hb => ?_, fun id hi hb => ?_, fun id hi hb => ?_⟩
  · have := h1 id hi; rw [memN_iff.2 hb] at this; cases this
  · have := h2 id hi; rw [memN_iff.2 hb] at this; cases this
  · have := h3 id hi
    unfold inR at this
    rw [Nat.ble_eq_true_of_le hb.1] at this
    have q : Nat.blt id a.hi = true := by simpa [Nat.blt_eq] using hb.2
    rw [q] at this; cases this

theorem soundR_spec {r : Rec} (h0 : soundR r = true) : (∀ id ∈ r.w, id ∈ r.t) ∧ (∀ id ∈ r.t, id < r.hi) := by
  unfold soundR at h0
  simp only [Bool.and_eq_true, List.all_eq_true] at h0
  exact ⟨fun id hi => memN_iff.1 (h0.1 id hi), fun id hi => by simpa [Nat.blt_eq] using h0.2 id hi⟩

/-- What has been done, when a list of marks is reached. -/
def Sl (listed : Array Bool) (j : Nat) : Prop := listed.getD j false = true

structure DI (P : Program) (nG : Nat) (all : Array Oper) (tr : List Ev) (F : Fr) (h' : HS) (φ₀ : Phi) (G₀ : AMap) (w₀ : World) (listed : Array Bool) (φ : Phi) (fr : Frame) (w : World) : Prop where
  size : listed.size = all.size
  closed : ∀ (j : Nat) (o : Oper) (e : Edge), all[j]? = some o → Sl listed j → e ∈ o.after → Region.binds .any e = true → Sl listed e.on
  post : PostG P nG (fun id => ∃ i, i < all.size ∧ Sl listed i ∧ (trH tr h' i).next ≤ id ∧ id < (trH tr h' (i + 1)).next) φ₀ G₀ w₀ φ (GS tr h' G₀ (Sl listed) all.size) w
  tsize : fr.tmps.size = F.n
  tmps : ∀ d, VR φ (TS tr all F (Sl listed) all.size d) (fr.tmps.getD d undef)
  mode : fr.mode = .run
  fn : fr.fn = F.fn
  kind : fr.kind = .normal
  round : RoR φ F.round fr.roundOf
  defers : DsR φ F.defers fr.defers

theorem Sl_set {listed : Array Bool} {j : Nat} (hj : j < listed.size) (i : Nat) : Sl (listed.setIfInBounds j true) i ↔ (Sl listed i ∨ i = j) := by
  unfold Sl
  by_cases e : i = j
  · subst e
    simp [Array.getD, hj]
  · rw [getD_set_ne _ (Ne.symm e)]
    simp [e]

end
end Go.Proofs.YthiaocbikmiciaaGreatDoor.H
namespace Go.Proofs.YthiaocbikmiciaaGreatDoor.H
section
variable {P : Program} {nG : Nat} {prim : Prims} {trk : Bool} {h h' : HS} {φ : Phi} {G : AMap} {w : World} {all : Array Oper} {tr : List Ev} {F F' : Fr}

theorem DI.step {φ₀ : Phi} {G₀ : AMap} {w₀ : World} {listed : Array Bool} {fr : Frame} {cs : List Frame} {j : Nat} {rest : List Nat} {k : List Item}
    (T : Text P nG all tr F F' h h') (A : Apart all tr) (hok : all.toList.all (okOp nG) = true) (hnd : all.toList.all (fun o => noSel o && notDefer o.op) = true)
    (ha : ∀ e, e ∈ tr → ∀ id ∈ e.r.t, id < h.next → G₀ id = h.m.get id) (hf : Fresh φ₀ G₀ h h')
    (I : DI P nG all tr F h' φ₀ G₀ w₀ listed φ fr w) (hj : j ∈ Region.ready .any all listed) (ht : fr.todo = .inRegion all (j :: rest) :: k) :
    ∃ φ' fr' w', DI P nG all tr F h' φ₀ G₀ w₀ (listed.setIfInBounds j true) φ' fr' w' ∧ Steps P (lone fr cs w) (lone fr' cs w') ∧ fr'.todo = .inRegion all rest :: k := by
  obtain ⟨hl0, o, ho, hedge⟩ := mem_ready.1 hj
  have hjm : j < all.size := (Array.getElem?_eq_some_iff.1 ho).1
  have hjl : j < listed.size := by rw [I.size]; exact hjm
  have hnS : ¬ Sl listed j := by
    unfold Sl
    simp only [Array.getD, hjl, dite_true] at hl0 ⊢
    rw [hl0]; simp
  obtain ⟨o', ev, a1, a2, a3, a4⟩ := T.get hjm
  rw [ho] at a1; cases a1
  have L := T.link j o ev ho a2
  have hwl := T.log j ev a2
  have hsr := soundR_spec L.sound
  have hordS : ∀ i, i < j → ((Region.before all).getD j 0).testBit i = true → Sl listed i := by
    intro i hij hb
    rcases before_closed (all := all) (fun x => Sl listed x ∨ x = j) (fun x ox e h1 h2 h3 h4 => by
      rcases h2 with h2 | h2
      · exact .inl (I.closed x ox e h1 h2 h3 h4)
      · subst h2
        rw [ho] at h1; cases h1
        exact .inl (hedge e h3 h4)) i j (.inr rfl) hb with hc | hc
    · exact hc
    · omega
  have hfree1 : ∀ i, i < j → ¬ Sl listed i → Free all i j := by
    intro i hij hn
    unfold Free
    cases q : ((Region.before all).getD j 0).testBit i with
    | false => rfl
    | true => exact absurd (hordS i hij q) hn
  have hfree2 : ∀ i, Sl listed i → Free all j i := by
    intro i hs
    unfold Free
    cases q : ((Region.before all).getD i 0).testBit j with
    | false => rfl
    | true => exact absurd (before_closed (Sl listed) I.closed j i hs q) hnS
  have hSm : ∀ i, Sl listed i → i < all.size := by
    intro i hs
    rcases Nat.lt_or_ge i all.size with q | q
    · exact q
    · unfold Sl at hs
      rw [Array.getD_eq_getD_getElem?, Array.getElem?_eq_none (by rw [I.size]; exact q)] at hs
      simp at hs
  have hev : ∀ i, i < all.size → ∃ x ei, all[i]? = some x ∧ tr[i]? = some ei ∧ ei.r.lo = (trH tr h' i).next ∧ ei.r.hi = (trH tr h' (i + 1)).next ∧ soundR ei.r = true := by
    intro i hi
    obtain ⟨x, ei, b1, b2, b3, b4⟩ := T.get hi
    have Li := T.link i x ei b1 b2
    exact ⟨x, ei, b1, b2, by rw [Li.lo, b4], Li.hi, Li.sound⟩
  have hlo : ev.r.lo = (trH tr h' j).next := by rw [L.lo, a4]
  -- memory
  have c1 : ∀ i, i < j → ∀ id ∈ ev.r.t, Wr tr h' i id → Sl listed i := by
    intro i hij id hid hw
    refine Classical.byContradiction fun hn => ?_
    obtain ⟨x, ei, b1, b2, b3, b4, b5⟩ := hev i (by omega)
    obtain ⟨q1, q2, q3⟩ := apartR_spec (A.mem i j ei ev hij (hfree1 i hij hn) b2 a2)
    rcases hw with ⟨e', e1, e2⟩ | hw
    · rw [b2] at e1; cases e1
      exact q1 id e2 hid
    · exact q3 id hid (by rw [b3, b4]; exact hw)
  have c2 : ∀ i, j < i → Sl listed i → ∀ id ∈ ev.r.t, ¬ Wr tr h' i id := by
    intro i hij hs id hid hw
    have him := hSm i hs
    obtain ⟨x, ei, b1, b2, b3, b4, b5⟩ := hev i him
    obtain ⟨q1, q2, q3⟩ := apartR_spec (A.mem j i ev ei hij (hfree2 i hs) a2 b2)
    rcases hw with ⟨e', e1, e2⟩ | hw
    · rw [b2] at e1; cases e1
      exact q2 id e2 hid
    · have := hsr.2 id hid
      have := T.mono (i := j + 1) (j := i) (by omega) (by omega)
      rw [L.hi] at *
      omega
  have c3 : ∀ id, Wr tr h' j id → ∀ i, j < i → Sl listed i → ¬ Wr tr h' i id := by
    intro id hwj i hij hs hw
    rcases hwj with ⟨e', e1, e2⟩ | hwj
    · rw [a2] at e1; cases e1
      exact c2 i hij hs id (hsr.1 id e2) hw
    · have him := hSm i hs
      obtain ⟨x, ei, b1, b2, b3, b4, b5⟩ := hev i him
      obtain ⟨q1, q2, q3⟩ := apartR_spec (A.mem j i ev ei hij (hfree2 i hs) a2 b2)
      rcases hw with ⟨e', e1, e2⟩ | hw
      · rw [b2] at e1; cases e1
        exact q3 id ((soundR_spec b5).1 id e2) (by rw [hlo, L.hi]; exact hwj)
      · have := T.mono (i := j + 1) (j := i) (by omega) (by omega)
        omega
  -- temporaries
  have t1 : ∀ d ∈ o.looksAt all, TS tr all F (Sl listed) all.size d = ((ev.F).tmps.get d).getD undef := by
    intro d hd
    rw [TS_same (j := j) (by omega) (fun i hij hdst => ?_) (fun i hij him hs hdst => ?_), (T.tmp j (by omega) d).1, a3]
    · refine Classical.byContradiction fun hn => ?_
      obtain ⟨x, ei, b1, b2, _⟩ := hev i (by omega)
      rw [b1] at hdst
      exact (Oper.apart_spec (A.tmps i j x o hij (hfree1 i hij hn) b1 ho)).1 d hdst hd
    · obtain ⟨x, ei, b1, b2, _⟩ := hev i him
      rw [b1] at hdst
      rcases Nat.lt_or_ge j i with q | q
      · exact (Oper.apart_spec (A.tmps j i o x q (hfree2 i hs) ho b1)).2.2 d hdst hd
      · have : i = j := by omega
        subst this; exact hnS hs
  have t3 : ∀ d, (all[j]?).bind (·.dst) = some d → ∀ i, j < i → Sl listed i → (all[i]?).bind (·.dst) ≠ some d := by
    intro d hd i hij hs hdst
    obtain ⟨x, ei, b1, b2, _⟩ := hev i (hSm i hs)
    rw [b1] at hdst
    rw [ho] at hd
    exact (Oper.apart_spec (A.tmps j i o x hij (hfree2 i hs) ho b1)).2.1 d hd hdst
  have hTS : ∀ d, TS tr all F (Sl (listed.setIfInBounds j true)) all.size d = if o.dst = some d then ev.v else TS tr all F (Sl listed) all.size d := by
    intro d
    rw [TS_congr (S' := fun i => Sl listed i ∨ i = j) all.size (fun i _ => Sl_set hjl i), TS_add hnS (t3 d) all.size]
    simp only [hjm, true_and, ho, Option.bind_some, a2, Option.map_some, Option.getD_some]
  have hGS : ∀ id, GS tr h' G₀ (Sl (listed.setIfInBounds j true)) all.size id = (open Classical in if Wr tr h' j id then (trH tr h' (j + 1)).m.get id else GS tr h' G₀ (Sl listed) all.size id) := by
    intro id
    rw [GS_congr (S' := fun i => Sl listed i ∨ i = j) all.size (fun i _ => Sl_set hjl i), GS_add hnS (c3 id) all.size]
    by_cases q : Wr tr h' j id
    · rw [if_pos ⟨hjm, q⟩, if_pos q]
    · rw [if_neg (fun q' => q q'.2), if_neg q]
  have hclosed : ∀ (x : Nat) (ox : Oper) (e : Edge), all[x]? = some ox → Sl (listed.setIfInBounds j true) x → e ∈ ox.after → Region.binds .any e = true → Sl (listed.setIfInBounds j true) e.on := by
    intro x ox e h1 h2 h3 h4
    rw [Sl_set hjl] at h2 ⊢
    rcases h2 with h2 | h2
    · exact .inl (I.closed x ox e h1 h2 h3 h4)
    · subst h2
      rw [ho] at h1; cases h1
      exact .inl (hedge e h3 h4)
  -- is it wanted?
  have hlook : ∀ d ∈ o.looksAt all, VR φ ((ev.F.tmps.get d).getD undef) (fr.tmps.getD d undef) := fun d hd => by rw [← t1 d hd]; exact I.tmps d
  have hwant : Region.wanted o (yielded all fr.tmps) = ev.ran := by
    rw [← L.want]
    unfold Region.wanted Fr.wanted
    cases hg : o.guard with
    | none => rfl
    | some p =>
      obtain ⟨g, want⟩ := p
      simp only
      unfold yielded
      cases hd : (all[g]?).bind (·.dst) with
      | none => simp
      | some d =>
        have hdl : d ∈ o.looksAt all := by
          unfold Oper.looksAt
          rw [hg]
          simp [hd]
        have hv := hlook d hdl
        have hn : ev.F.n = F.n := by rw [← a3]; exact (T.tmp j (by omega) 0).2
        simp only [Option.bind_some]
        by_cases hlt : d < F.n
        · have hs : d < fr.tmps.size := by rw [I.tsize]; exact hlt
          have hb : Nat.blt d ev.F.n = true := by rw [hn]; simpa [Nat.blt_eq] using hlt
          have he : fr.tmps[d]? = some (fr.tmps.getD d undef) := by simp [hs]
          rw [he, hb]
          generalize (ev.F.tmps.get d).getD undef = a at hv
          generalize fr.tmps.getD d undef = b at hv
          cases hv <;> try (simp; done)
          rename_i hb1 hb2
          cases b <;> simp at hb2 ⊢
        · have hs : ¬ d < fr.tmps.size := by rw [I.tsize]; exact hlt
          have hb : Nat.blt d ev.F.n = false := by
            rw [hn]
            cases q : Nat.blt d F.n with
            | false => rfl
            | true => exact absurd (by simpa [Nat.blt_eq] using q) hlt
          have he : fr.tmps[d]? = none := Array.getElem?_eq_none (Nat.le_of_not_lt hs)
          rw [he, hb]
          cases (ev.F.tmps.get d).getD undef <;> rfl
  have hok : okOp nG o = true := by
    have := List.all_eq_true.1 hok o (by have := Array.mem_of_getElem? ho; simpa using this)
    exact this
  have hnd' : notDefer o.op = true := by
    have := List.all_eq_true.1 hnd o (by have := Array.mem_of_getElem? ho; simpa using this)
    simp only [Bool.and_eq_true] at this
    exact this.2
  -- the destination lies in the frame
  have hdst : ∀ d, o.dst = some d → d < F.n := by
    intro d hd
    have hp := L.put
    unfold Fr.put at hp
    rw [hd] at hp
    simp only at hp
    cases hb : Nat.blt d ev.F.n && Nat.blt d keyMax with
    | false => simp [hb] at hp
    | true =>
      simp only [Bool.and_eq_true] at hb
      have hn : ev.F.n = F.n := by rw [← a3]; exact (T.tmp j (by omega) 0).2
      rw [← hn]; simpa [Nat.blt_eq] using hb.1
  have hput : ∀ (ψ : Phi) (v' : Value), Le φ ψ → VR ψ ev.v v' → (Frame.put fr o v' all rest k).tmps.size = F.n ∧ ∀ d, VR ψ (TS tr all F (Sl (listed.setIfInBounds j true)) all.size d) ((Frame.put fr o v' all rest k).tmps.getD d undef) := by
    intro ψ v' hle hv
    cases hd : o.dst with
    | none =>
      refine ⟨by simpa [Frame.put, hd] using I.tsize, fun d => ?_⟩
      rw [hTS d, hd, if_neg (by simp)]
      simpa [Frame.put, hd] using (I.tmps d).mono hle
    | some d' =>
      refine ⟨by simpa [Frame.put, hd] using I.tsize, fun d => ?_⟩
      rw [hTS d, hd]
      by_cases e : d = d'
      · subst e
        rw [if_pos rfl]
        have : d < fr.tmps.size := by rw [I.tsize]; exact hdst d hd
        simpa [Frame.put, hd, Array.getD, this] using hv
      · rw [if_neg (by simpa using Ne.symm e)]
        have g : (fr.tmps.setIfInBounds d' v').getD d Go.undef = fr.tmps.getD d Go.undef := by
          simp only [Array.getD_eq_getD_getElem?]
          rw [Array.getElem?_setIfInBounds_ne (Ne.symm e)]
        simpa [Frame.put, hd, g] using (I.tmps d).mono hle
  cases hr : ev.ran with
  | false =>
    obtain ⟨d1, d2, d3, d4⟩ := L.idle hr
    have hw0 : ∀ id, ¬ Wr tr h' j id := by
      rintro id (⟨e', e1, e2⟩ | e1)
      · rw [a2] at e1; cases e1
        rw [d3] at e2; simp at e2
      · rw [d1, a4] at e1; omega
    have hG : GS tr h' G₀ (Sl (listed.setIfInBounds j true)) all.size = GS tr h' G₀ (Sl listed) all.size := by
      funext id; rw [hGS id, if_neg (hw0 id)]
    obtain ⟨p1, p2⟩ := hput φ undef (Le.refl _) (by rw [d4]; exact VR.undef)
    refine ⟨φ, Frame.put fr o undef all rest k, w, ⟨by simp [I.size], hclosed, ?_, p1, p2, I.mode, I.fn, I.kind, I.round, I.defers⟩, Steps.one (st_skip I.mode ht ho (by rw [hwant, hr])), rfl⟩
    rw [hG]
    have p := I.post
    exact ⟨p.le, fun id M b1 b2 => by
      obtain ⟨i, i1, i2, i3⟩ := p.only id M b1 b2
      exact ⟨i, i1, (Sl_set hjl i).2 (.inl i2), i3⟩, p.rel, p.kept, p.orig, p.size, p.tape, p.os, p.out⟩
  | true =>
    have hgood := L.good hr
    rw [← a4] at hgood
    -- the memory that it finds
    have hagree : Agree (some (ev.r.t, ev.r.w)) (trH tr h' j) (GS tr h' G₀ (Sl listed) all.size) := by
      intro id hid hlt
      rw [GS_same (j := j) (by omega) (fun i hij hw => c1 i hij id hid hw) (fun i hij him hs hw => by
        rcases Nat.lt_or_ge j i with q | q
        · exact c2 i q hs id hid hw
        · have : i = j := by omega
          subst this; exact hnS hs)]
      refine T.mem j (by omega) id ?_
      rcases Nat.lt_or_ge id h.next with q | q
      · exact .inl (ha ev (List.mem_of_getElem? a2) id hid q)
      · -- it was made by one ahead
        right
        have key : ∀ n, n ≤ j → (trH tr h' 0).next ≤ id → id < (trH tr h' n).next → ∃ i, i < n ∧ Wr tr h' i id := by
          intro n
          induction n with
          | zero => intro _ b1 b2; omega
          | succ n ih =>
            intro b1 b2 b3
            rcases Nat.lt_or_ge id (trH tr h' n).next with q2 | q2
            · obtain ⟨i, i1, i2⟩ := ih (by omega) b2 q2
              exact ⟨i, by omega, i2⟩
            · exact ⟨n, by omega, .inr ⟨q2, b3⟩⟩
        exact key j (Nat.le_refl _) (by rw [T.h0]; exact q) hlt
    have hfresh : Fresh φ (GS tr h' G₀ (Sl listed) all.size) (trH tr h' j) (trH tr h' (j + 1)) := by
      intro id b1 b2
      have m1 := T.mono (i := 0) (j := j) (by omega) (by omega)
      have m2 := T.mono (i := j + 1) (j := all.size) (by omega) (by omega)
      rw [T.h0] at m1
      rw [T.hm] at m2
      obtain ⟨f1, f2⟩ := hf id (by omega) (by omega)
      refine ⟨?_, ?_⟩
      · cases e : φ id with
        | none => rfl
        | some M =>
          obtain ⟨i, i1, i2, i3, i4⟩ := I.post.only id M e f1
          exfalso
          rcases Nat.lt_or_ge i j with q | q
          · have := T.mono (i := i + 1) (j := j) (by omega) (by omega); omega
          · rcases Nat.lt_or_ge j i with q2 | q2
            · have := T.mono (i := j + 1) (j := i) (by omega) (by omega); omega
            · have : i = j := by omega
              subst this; exact hnS i2
      · have hnone : ∀ i, i < all.size → Sl listed i → ¬ Wr tr h' i id := by
          intro i him hs hw
          obtain ⟨x, ei, g1, g2, g3, g4, g5⟩ := hev i him
          rcases Nat.lt_or_ge j i with q | q
          · exact c3 id (.inr ⟨b1, b2⟩) i q hs hw
          · have hne : i ≠ j := fun e => by subst e; exact hnS hs
            have m3 := T.mono (i := i + 1) (j := j) (by omega) (by omega)
            rcases hw with ⟨e', e1, e2⟩ | hw
            · rw [g2] at e1; cases e1
              have := (soundR_spec g5).2 id ((soundR_spec g5).1 id e2)
              omega
            · omega
        rw [GS_same (j := 0) (by omega) (fun i hi _ => by omega) (fun i _ him hs => hnone i him hs)]
        exact f2
    obtain ⟨_, hg⟩ := hgood φ _ w hwl.2 I.post.rel hagree hfresh
    obtain ⟨ψ, w', v', q1, q2, q3⟩ := hg fr k cs all j rest I.mode ht ho (by rw [hwant, hr]) (fun x hx => by
      have hxok := List.all_eq_true.1 hok x (by simpa using hx)
      cases x with
      | tmp d =>
        refine hlook d ?_
        unfold Oper.looksAt
        exact List.mem_append_left _ (List.mem_filterMap.2 ⟨.tmp d, by simpa using hx, rfl⟩)
      | const v => exact VR.of_flat 9 hxok
      | global g =>
        obtain ⟨M, h1, h2, h3⟩ := I.post.rel.glob g (by simpa [okX, Nat.blt_eq] using hxok)
        have := VR.pointer (φ := φ) (id := g) 0 h1
        simpa [Fr.eval, Frame.eval, h2, h3] using this
      | func f => exact .func rfl rfl rfl (fun i a => by simp at a) (fun i a => by simp at a))
    have hG : Upd (some (ev.r.t, ev.r.w)) (trH tr h' j) (trH tr h' (j + 1)) (GS tr h' G₀ (Sl listed) all.size) = GS tr h' G₀ (Sl (listed.setIfInBounds j true)) all.size := by
      funext id
      rw [hGS id]
      simp only [Upd]
      by_cases q : id ∈ ev.r.w ∨ ((trH tr h' j).next ≤ id ∧ id < (trH tr h' (j + 1)).next)
      · rw [if_pos q, if_pos]
        rcases q with q | q
        · exact .inl ⟨ev, a2, q⟩
        · exact .inr q
      · rw [if_neg q, if_neg]
        rintro (⟨e', e1, e2⟩ | e1)
        · rw [a2] at e1; cases e1
          exact q (.inl e2)
        · exact q (.inr e1)
    have q1' := q1.toG
    rw [hG] at q1'
    obtain ⟨p1, p2⟩ := hput ψ v' q1.le q2
    refine ⟨ψ, Frame.put fr o v' all rest k, w', ⟨by simp [I.size], hclosed, ?_, p1, p2, I.mode, I.fn, I.kind, I.round.mono q1.le, I.defers.mono q1.le⟩, q3, rfl⟩
    refine I.post.trans q1' ?_ ?_
    · rintro id ⟨i, i1, i2, i3⟩
      exact ⟨i, i1, (Sl_set hjl i).2 (.inl i2), i3⟩
    · intro id hid
      exact ⟨j, hjm, (Sl_set hjl j).2 (.inr rfl), hid⟩

end
end Go.Proofs.YthiaocbikmiciaaGreatDoor.H
