/- The machine that is run by the kernel, part 3: no claim of its own. -/
import Derived.Test.YthiaocbikmiciaaGreatDoorH2
import Derived.Orders
namespace Go.Proofs.YthiaocbikmiciaaGreatDoor.H
section
variable {P : Program} {nG : Nat} {trk : Bool} {h : HS} {φ : Phi} {G : AMap} {w : World}

theorem VR.flat_eq : ∀ (n : Nat) {v v' : Value}, flat n v = true → VR φ v v' → v' = v := by
  intro n
  induction n with
  | zero => intro v v' h; simp [flat] at h
  | succ n ih =>
    have key : ∀ xs ys : Array Value, xs.toList.all (flat n) = true → xs.size = ys.size → (∀ i (a : i < xs.size) (b : i < ys.size), VR φ xs[i] ys[i]) → ys = xs := by
      intro xs ys ha hs hr
      apply Array.ext hs.symm
      intro i h1 h2
      exact ih (List.all_eq_true.1 ha xs[i] (by simp)) (hr i h2 h1)
    intro v v' hf hv
    cases hv with
    | bool | int | float | string | nilPointer | nilSlice | nilMap | nilFunc | nilIface => rfl
    | pointer | slice | sliceG | map | top => simp [flat] at hf
    | func h1 h2 h3 h4 h5 =>
      simp only [flat, Bool.and_eq_true] at hf
      rw [key _ _ hf.1.2 h2 h4, key _ _ hf.2 h3 h5]
      rename_i f g _ _ _ _
      cases f <;> simp_all [FnR]
    | iface t h1 => rw [ih (by simpa [flat] using hf) h1]
    | agg h1 h2 => rw [key _ _ (by simpa [flat] using hf) h1 h2]
    | tuple h1 h2 => rw [key _ _ (by simpa [flat] using hf) h1 h2]

def noSel (o : Oper) : Bool := match o.op with | .select _ _ => false | _ => true

/-- An operation upon values without addresses. -/
def hflat (P : Program) (trk : Bool) (ρ : Operand → Value) (o : Oper) (h : HS) : R HNext :=
  bif o.op.operands.toList.all (fun x => flat 9 (ρ x)) && noSel o then
    match semP P (execOp ρ o) with
    | some (.value v) => bif flat 9 v then ret trk h v else none
    | _ => none
  else none

theorem snd_flat {ρ ρ' : Operand → Value} {o : Oper} (hρ : ∀ x ∈ o.op.operands, VR φ (ρ x) (ρ' x)) : Snd P nG trk h φ G w (hflat P trk ρ o h) (execOp ρ' o) := by
  unfold hflat
  cases hc : o.op.operands.toList.all (fun x => flat 9 (ρ x)) && noSel o with
  | false => exact snd_none
  | true =>
    simp only [cond_true]
    simp only [Bool.and_eq_true] at hc
    have he : execOp ρ o = execOp ρ' o := execOp_congr o (fun cs b e => by have := hc.2; simp [noSel, e] at this) fun x hx =>
      (VR.flat_eq 9 (List.all_eq_true.1 hc.1 x (by simpa using hx)) (hρ x hx)).symm
    rw [← he]
    cases hs : semP P (execOp ρ o) with
    | none => exact snd_none
    | some y =>
      cases y <;> try exact snd_none
      rename_i v
      simp only
      cases hf : flat 9 v with
      | false => exact snd_none
      | true => exact snd_ret fun _ => ⟨.value v, semP_run hs w, .inl ⟨v, rfl, VR.of_flat 9 hf⟩⟩

/-- A comparison with nil. -/
def hnilEq (P : Program) (t : TypeId) (a b : Value) : Option Bool :=
  match P.underlying t with
  | some (.pointer _) => match a, b with
    | .pointer none, .pointer b => some b.isNone
    | .pointer _, .pointer none => some false
    | _, _ => none
  | some (.slice _) => match a, b with
    | .slice none _ _, .slice b _ _ => some b.isNone
    | .slice _ _ _, .slice none _ _ => some false
    | _, _ => none
  | some (.map _ _) => match a, b with
    | .map none, .map b => some b.isNone
    | .map _, .map none => some false
    | _, _ => none
  | some (.interface _) => match a, b with
    | .nilIface, .iface _ _ => some false
    | .iface _ _, .nilIface => some false
    | _, _ => none
  | some (.func _ _ _) => match a, b with
    | .nilFunc, .nilFunc => some true
    | .nilFunc, .func _ _ _ => some false
    | .func _ _ _, .nilFunc => some false
    | _, _ => none
  | _ => none

theorem run_equal_any {t : TypeId} {x y : Value} : Op.equal t x y = Op.equalIn (9999 + 1) t x y := rfl

theorem run_nilEqIn (d : Nat) {t : TypeId} {a b a' b' : Value} {r : Bool} (ha : VR φ a a') (hb : VR φ b b') (hn : hnilEq P t a b = some r) : (Op.equalIn (d + 1) t a' b').run P w = .ok r w := by
  unfold hnilEq at hn
  cases hu : P.underlying t with
  | none => simp [hu] at hn
  | some d =>
    cases d <;> simp only [hu] at hn <;> try (cases hn; done)
    all_goals
      cases ha <;> try (cases hn; done)
      all_goals
        cases hb <;> try (cases hn; done)
        all_goals (simp only [Option.some.injEq] at hn; subst hn; simp [Op.equalIn, run_underlying hu])

theorem run_nilEq {t : TypeId} {a b a' b' : Value} {r : Bool} (ha : VR φ a a') (hb : VR φ b b') (hn : hnilEq P t a b = some r) : (Op.equal t a' b').run P w = .ok r w :=
  run_nilEqIn 9999 ha hb hn

/-- '==', '!=' with nil. -/
def hcmpNil (P : Program) (op : BinOp) (t : TypeId) (a b : Value) : Option Value :=
  match op with
  | .eql => (hnilEq P t a b).map .bool
  | .neq => (hnilEq P t a b).map fun r => .bool (!r)
  | _ => none

theorem snd_cmpNil {op : BinOp} {t : TypeId} {x y : Operand} {a b a' b' : Value} (ha : VR φ a a') (hb : VR φ b b') :
    Snd P nG trk h φ G w (retO trk h (hcmpNil P op t a b)) (valS (do eqGuard op t x y a' b'; binOp op t a' b')) := by
  refine snd_retV fun u e _ => ?_
  have key : ∀ r, hnilEq P t a b = some r → (eqGuard op t x y a' b').run P w = .ok () w := by
    intro r hr
    unfold hnilEq at hr
    unfold eqGuard
    cases hu : P.underlying t with
    | none => simp [hu] at hr
    | some d =>
      cases d <;> simp only [hu] at hr <;> try (cases hr; done)
      all_goals
        cases ha <;> try (cases hr; done)
        all_goals
          cases hb <;> try (cases hr; done)
          all_goals (by_cases q : (!(op matches .eql | .neq)) = true <;> simp)
  have key2 : ∀ r, hnilEq P t a b = some r → binOp .eql t a' b' = (do pure (.bool (← Op.equal t a' b'))) ∧ binOp .neq t a' b' = (do pure (.bool (!(← Op.equal t a' b')))) := by
    intro r hr
    unfold hnilEq at hr
    cases hu : P.underlying t with
    | none => simp [hu] at hr
    | some d =>
      cases d <;> simp only [hu] at hr <;> try (cases hr; done)
      all_goals
        cases ha <;> try (cases hr; done)
        all_goals
          cases hb <;> try (cases hr; done)
          all_goals exact ⟨rfl, rfl⟩
  unfold hcmpNil at e
  cases op <;> simp only at e <;> try (cases e; done)
  all_goals
    cases hn : hnilEq P t a b with
    | none => simp [hn] at e
    | some r =>
      simp only [hn, Option.map_some, Option.some.injEq] at e
      subst e
      refine ⟨_, ?_, .bool _⟩
      simp only [Sem.run_bind, key r hn, Result.andThen, (key2 r hn).1, (key2 r hn).2, run_nilEq ha hb hn, Sem.run_pure]

def hpick (trk : Bool) (h : HS) (c a b : Value) : R HNext :=
  match c with
  | .bool t => ret trk h (bif t then a else b)
  | _ => none

theorem snd_pick {c a b c' a' b' : Value} (hc : VR φ c c') (ha : VR φ a a') (hb : VR φ b b') :
    Snd P nG trk h φ G w (hpick trk h c a b) (do pure (.value (if ← asBool c' then a' else b'))) := by
  cases hc <;> try exact snd_none
  rename_i t
  refine snd_ret fun _ => ⟨.value (if t then a' else b'), by cases t <;> simp [asBool], .inl ⟨_, rfl, by cases t <;> simpa⟩⟩

theorem snd_move {x x' : Value} (hx : VR φ x x') : Snd P nG trk h φ G w (ret trk h x) (pure (.value x')) :=
  snd_ret fun _ => ⟨.value x', rfl, .inl ⟨_, rfl, hx⟩⟩

def hnilCheck (x : Value) : Option Value :=
  match x with
  | .pointer (some _) => some x
  | .func (.func _) _ _ => some x
  | .iface _ _ => some x
  | _ => none

theorem snd_nilCheck {x x' : Value} (hx : VR φ x x') {ρ' : Operand → Value} {o : Oper} {ox : Operand} (ho : o.op = .nilCheck ox) (hρ : ρ' ox = x') :
    Snd P nG trk h φ G w (retO trk h (hnilCheck x)) (execOp ρ' o) := by
  refine snd_retO fun u e _ => ?_
  have hu : u = x := by
    unfold hnilCheck at e
    split at e <;> simp_all
  subst hu
  refine ⟨.value x', ?_, .inl ⟨_, rfl, hx⟩⟩
  unfold execOp
  rw [ho]
  simp only [hρ]
  cases hx <;> try (cases e; done)
  case pointer => rfl
  case iface => rfl
  case func f g _ _ _ _ h1 _ _ _ _ =>
    cases f <;> try (cases e; done)
    simp only [FnR] at h1
    subst h1
    rfl

theorem snd_makeInterface {t : TypeId} {x x' : Value} (hx : VR φ x x') :
    Snd P nG trk h φ G w (match P.underlying t with | some (.interface _) => none | some _ => ret trk h (.iface t x) | none => none) (valS (Instr.makeInterface t x')) := by
  cases hu : P.underlying t with
  | none => exact snd_none
  | some d =>
    cases d <;> try exact snd_none
    all_goals exact snd_ret fun _ => snd_val (v' := .iface t x') (by simp [Instr.makeInterface, run_underlying hu]) (.iface t hx)

def okFn : Fn → Bool
  | .yield _ => false
  | _ => true

theorem snd_makeFunc {f : Fn} {xs ys xs' ys' : Array Value} (h1 : LR φ xs.toList xs'.toList) (h2 : LR φ ys.toList ys'.toList) :
    Snd P nG trk h φ G w (bif okFn f then ret trk h (.func f xs ys) else none) (valS (Instr.makeFunc f xs' ys')) := by
  cases hf : okFn f with
  | false => exact snd_none
  | true =>
    refine snd_ret fun _ => snd_val (v' := .func f xs' ys') rfl (.func ?_ (by simpa using h1.1) (by simpa using h2.1) (fun i a b => h1.2 i (by simpa using a) (by simpa using b)) (fun i a b => h2.2 i (by simpa using a) (by simpa using b)))
    cases f <;> simp_all [okFn, FnR]

end
end Go.Proofs.YthiaocbikmiciaaGreatDoor.H
namespace Go.Proofs.YthiaocbikmiciaaGreatDoor.H
section
variable {P : Program} {nG : Nat} {trk : Bool} {h : HS} {φ : Phi} {G : AMap} {w : World}

/-- Where a key stands among entries: some none: nowhere. -/
def findK (P : Program) (kt : TypeId) (k : Value) : List MapEntry → Nat → Option (Option (Nat × MapEntry))
  | [], _ => some none
  | e :: es, i =>
    bif flat 9 e.key then
      match semP P (Op.equal kt k e.key) with
      | some true => some (some (i, e))
      | some false => findK P kt k es (i + 1)
      | none => none
    else none

theorem run_intEq {kt : TypeId} {kk : IntKind} (d : Nat) (hu : P.underlying kt = some (.int kk)) (a b : Int) (j k : IntKind) (w : World) : (Op.equalIn (d + 1) kt (.int j a) (.int k b)).run P w = if j = k then .ok (a == b) w else .halt (.stuck "==: kinds differ") w := by
  simp only [Op.equalIn, Sem.run_bind, run_underlying hu, Result.andThen]
  split <;> rfl

theorem run_strEq {kt : TypeId} (d : Nat) (hu : P.underlying kt = some .string) (a b : ByteArray) (w : World) : (Op.equalIn (d + 1) kt (.string a) (.string b)).run P w = .ok (a == b) w := by
  simp only [Op.equalIn, Sem.run_bind, run_underlying hu, Result.andThen, Sem.run_pure]
theorem run_boolEq {kt : TypeId} (d : Nat) (hu : P.underlying kt = some .bool) (a b : Bool) (w : World) : (Op.equalIn (d + 1) kt (.bool a) (.bool b)).run P w = .ok (a == b) w := by
  simp only [Op.equalIn, Sem.run_bind, run_underlying hu, Result.andThen, Sem.run_pure]

theorem sameNow_run {d : TypeDesc} {kt : TypeId} (hu : P.underlying kt = some d) {a b : Value} {r : Bool} (hs : Instr.sameNow d a b = some r) (w : World) : (Op.equal kt a b).run P w = .ok r w := by
  rw [run_equal_any]
  unfold Instr.sameNow at hs
  split at hs
  · rename_i kk j x k y
    rw [run_intEq 9999 hu]
    split at hs <;> simp_all
  · simp only [Option.some.injEq] at hs; subst hs
    exact run_strEq 9999 hu _ _ _
  · simp only [Option.some.injEq] at hs; subst hs
    exact run_boolEq 9999 hu _ _ _
  · cases hs

theorem findNow_run {d : TypeDesc} {kt : TypeId} (hu : P.underlying kt = some d) {k : Value} (w : World) : ∀ (es : List MapEntry) (i : Nat) (r : Option (Nat × Value)), Instr.findNow d k es i = some r → (Instr.findAsking kt k es i).run P w = .ok r w
  | [], i, r, hr => by simp only [Instr.findNow, Option.some.injEq] at hr; subst hr; rfl
  | e :: es, i, r, hr => by
    simp only [Instr.findNow] at hr
    simp only [Instr.findAsking, Sem.run_bind]
    cases hs : Instr.sameNow d k e.key with
    | none => simp [hs] at hr
    | some b =>
      rw [sameNow_run hu hs]
      simp only [Result.andThen]
      cases b with
      | true => simp only [hs, Option.some.injEq] at hr; subst hr; rfl
      | false =>
        simp only [hs] at hr
        simpa using findNow_run hu w es (i + 1) r hr

theorem findKey_run {kt : TypeId} (hu : (P.underlying kt).isSome = true) {k : Value} (w : World) (es : List MapEntry) : (Instr.findKey kt k es).run P w = (Instr.findAsking kt k es 0).run P w := by
  cases hd : P.underlying kt with
  | none => simp [hd] at hu
  | some d =>
    simp only [Instr.findKey, Sem.run_bind, run_underlying hd, Result.andThen]
    cases hr : Instr.findNow d k es 0 with
    | none => rfl
    | some r => rw [findNow_run hd w es 0 r hr]; rfl

/-- Related entries, as lists. -/
def ERs (φ : Phi) : List MapEntry → List MapEntry → Prop
  | [], l => l = []
  | e :: es, l => ∃ e' es', l = e' :: es' ∧ ER φ e e' ∧ ERs φ es es'

theorem MR.list {es : List MapEntry} {es' : Array MapEntry} (hm : MR φ es es') : ERs φ es es'.toList := by
  obtain ⟨l⟩ := es'
  obtain ⟨h1, h2⟩ := hm
  simp only [List.size_toArray, List.getElem_toArray] at h1 h2
  simp only
  induction es generalizing l with
  | nil => simp only [List.length_nil] at h1; exact List.eq_nil_of_length_eq_zero h1.symm
  | cons e es ih =>
    cases l with
    | nil => simp at h1
    | cons e' l =>
      refine ⟨e', l, rfl, h2 0 (by simp) (by simp), ih l (by simpa using h1) fun i a b => ?_⟩
      have := h2 (i + 1) (by simpa using a) (by simpa using b)
      simpa using this

theorem findK_run {kt : TypeId} {k : Value} (w : World) : ∀ (es es' : List MapEntry) (i : Nat) (r : Option (Nat × MapEntry)), ERs φ es es' → findK P kt k es i = some r →
    ∃ r', (Instr.findAsking kt k es' i).run P w = .ok r' w ∧ match r with
      | none => r' = none
      | some (j, e) => i ≤ j ∧ es[j - i]? = some e ∧ flat 9 e.key = true ∧ ∃ e', es'[j - i]? = some e' ∧ ER φ e e' ∧ r' = some (j, e'.val)
  | [], es', i, r, he, hr => by
    simp only [ERs] at he
    subst he
    simp only [findK, Option.some.injEq] at hr
    subst hr
    exact ⟨none, rfl, rfl⟩
  | e :: es, l, i, r, he, hr => by
    obtain ⟨e', es', rfl, h1, h2⟩ := he
    simp only [findK] at hr
    cases hf : flat 9 e.key with
    | false => simp [hf] at hr
    | true =>
      simp only [hf, cond_true] at hr
      have hk : e'.key = e.key := VR.flat_eq 9 hf h1.1
      simp only [Instr.findAsking, Sem.run_bind, hk]
      cases hs : semP P (Op.equal kt k e.key) with
      | none => simp [hs] at hr
      | some b =>
        rw [semP_run hs]
        simp only [Result.andThen]
        cases b with
        | true =>
          simp only [hs, Option.some.injEq] at hr
          subst hr
          exact ⟨some (i, e'.val), rfl, Nat.le_refl _, by simp, hf, e', by simp, h1, rfl⟩
        | false =>
          simp only [hs] at hr
          obtain ⟨r', k1, k2⟩ := findK_run w es es' (i + 1) r h2 hr
          refine ⟨r', by simpa using k1, ?_⟩
          cases r with
          | none => exact k2
          | some p =>
            obtain ⟨j, f⟩ := p
            obtain ⟨q1, q2, q3, f', q4, q5, q6⟩ := k2
            have e1 : j - i = (j - (i + 1)) + 1 := by omega
            exact ⟨by omega, by rw [e1]; simpa using q2, q3, f', by rw [e1]; simpa using q4, q5, q6⟩

def mapO (P : Program) (t : TypeId) : Option (TypeId × TypeId) :=
  match P.underlying t with
  | some (.map k e) => some (k, e)
  | _ => none

theorem map_under {t k e : TypeId} (h : mapO P t = some (k, e)) : P.underlying t = some (.map k e) := by
  unfold mapO at h
  cases q : P.underlying t with
  | none => simp [q] at h
  | some d => cases d <;> simp [q] at h; rw [h.1, h.2]

def keyOK (P : Program) (b : Bool) (kt : TypeId) (k : Value) : Bool := flat 9 k && (P.underlying kt).isSome && (semP P (Instr.checkKey b 10000 kt k)).isSome

theorem keyOK_run {b : Bool} {kt : TypeId} {k : Value} (hk : keyOK P b kt k = true) (w : World) : (Instr.checkKey b 10000 kt k).run P w = .ok () w := by
  unfold keyOK at hk
  simp only [Bool.and_eq_true] at hk
  cases q : semP P (Instr.checkKey b 10000 kt k) with
  | none => simp [q] at hk
  | some u => exact semP_run q w

def hlookup (P : Program) (trk : Bool) (t : TypeId) (m k : Value) (ok : Bool) (h : HS) : R HNext :=
  match mapO P t, m with
  | some (kt, et), .map none =>
    bif keyOK P true kt k then
      match zeroO P et with
      | some z => ret trk h (bif ok then .tuple #[z, .bool false] else z)
      | none => none
    else none
  | some (kt, et), .map (some id) =>
    match h.m.get id with
    | some (.map es _) =>
      bif keyOK P es.isEmpty kt k then
        match findK P kt k es 0 with
        | some (some (_, e)) => some (.val (bif ok then .tuple #[e.val, .bool true] else e.val), h, Log.rd trk [id])
        | some none => match zeroO P et with
          | some z => some (.val (bif ok then .tuple #[z, .bool false] else z), h, Log.rd trk [id])
          | none => none
        | none => none
      else none
    | _ => none
  | _, _ => none

theorem VR.pair {a a' b b' : Value} (ha : VR φ a a') (hb : VR φ b b') : VR φ (.tuple #[a, b]) (.tuple #[a', b']) :=
  VR.tuple_of_LR (xs := [a, b]) (ys := [a', b']) (LR.cons ha (LR.cons hb LR.nil))

theorem snd_lookup {t : TypeId} {m m' k k' : Value} {ok : Bool} (hm : VR φ m m') (hk : VR φ k k') : Snd P nG trk h φ G w (hlookup P trk t m k ok h) (valS (Instr.lookup t m' k' ok)) := by
  unfold hlookup
  cases ht : mapO P t with
  | none => exact snd_none
  | some p =>
    obtain ⟨kt, et⟩ := p
    cases hm <;> try exact snd_none
    case nilMap =>
      simp only
      cases hko : keyOK P true kt k with
      | false => exact snd_none
      | true =>
        simp only [cond_true]
        have hkk : k' = k := VR.flat_eq 9 (by simp only [keyOK, Bool.and_eq_true] at hko; exact hko.1.1) hk
        have hud : (P.underlying kt).isSome = true := by simp only [keyOK, Bool.and_eq_true] at hko; exact hko.1.2
        subst hkk
        cases hz : zeroO P et with
        | none => exact snd_none
        | some z =>
          refine snd_ret fun _ => snd_val (v' := bif ok then .tuple #[z, .bool false] else z) ?_ ?_
          · simp [Instr.lookup, run_underlying (map_under ht), keyOK_run hko, findKey_run hud, Instr.findAsking, run_zero hz]
            try (cases ok <;> rfl)
          · cases ok
            · exact zero_flat hz
            · exact VR.pair (zero_flat hz) (.bool _)
    case map id L hφ =>
      simp only
      cases hg : h.m.get id with
      | none => exact snd_none
      | some o =>
        cases o <;> try exact snd_none
        rename_i es clock
        simp only
        cases hko : keyOK P es.isEmpty kt k with
        | false => exact snd_none
        | true =>
          simp only [cond_true]
          have hkk : k' = k := VR.flat_eq 9 (by simp only [keyOK, Bool.and_eq_true] at hko; exact hko.1.1) hk
          have hud : (P.underlying kt).isSome = true := by simp only [keyOK, Bool.and_eq_true] at hko; exact hko.1.2
          subst hkk
          have hmap : ∀ {l : List Nat}, id ∈ l → WF h → Rel P nG φ G w → Agree (Log.rd trk l) h G → ∃ es', w.heap[L.blk]? = some (.map es' clock) ∧ MR φ es es' := by
            intro l hl hwf r a
            obtain ⟨M, ob, e1, e2, es', e3, e4⟩ := r.live id _ (a.rd_get hl hwf hg)
            rw [hφ] at e1; cases e1
            exact ⟨es', by rw [e2, e3], e4⟩
          have hempty : ∀ {es' : Array MapEntry}, MR φ es es' → es'.isEmpty = es.isEmpty := by
            intro es' hmr
            have := hmr.1
            cases es with
            | nil => simp at this; simp [Array.isEmpty, ← this]
            | cons e es => simp at this; simp [Array.isEmpty, ← this]
          cases hf : findK P kt k' es 0 with
          | none => exact snd_none
          | some r =>
            cases r with
            | none =>
              simp only
              cases hz : zeroO P et with
              | none => exact snd_none
              | some z =>
                refine snd_rd fun hwf r a => snd_val (v' := bif ok then .tuple #[z, .bool false] else z) ?_ ?_
                · obtain ⟨es', e1, e2⟩ := hmap (by simp) hwf r a
                  obtain ⟨r', k1, k2⟩ := findK_run w es es'.toList 0 none e2.list hf
                  simp only at k2
                  subst k2
                  have e3 := hempty e2
                  simp [Instr.lookup, run_underlying (map_under ht), getObj, Sem.run, e1, e3, keyOK_run hko, findKey_run hud, k1, run_zero hz]
                  try (cases ok <;> rfl)
                · cases ok
                  · exact zero_flat hz
                  · exact VR.pair (zero_flat hz) (.bool _)
            | some p =>
              obtain ⟨j, e⟩ := p
              simp only
              refine snd_rd fun hwf r a => ?_
              obtain ⟨es', e1, e2⟩ := hmap (by simp) hwf r a
              obtain ⟨r', k1, _, _, _, e', _, q5, q6⟩ := findK_run w es es'.toList 0 _ e2.list hf
              subst q6
              have e3 := hempty e2
              refine snd_val (v' := bif ok then .tuple #[e'.val, .bool true] else e'.val) ?_ ?_
              · simp [Instr.lookup, run_underlying (map_under ht), getObj, Sem.run, e1, e3, keyOK_run hko, findKey_run hud, k1]
                try (cases ok <;> rfl)
              · cases ok
                · exact q5.2.1
                · exact VR.pair q5.2.1 (.bool _)
    all_goals (split <;> first | exact snd_none | simp_all)

end
end Go.Proofs.YthiaocbikmiciaaGreatDoor.H
namespace Go.Proofs.YthiaocbikmiciaaGreatDoor.H
section
variable {P : Program} {nG : Nat} {trk : Bool} {h : HS} {φ : Phi} {G : AMap} {w : World}

def hmapUpdate (P : Program) (trk : Bool) (t : TypeId) (m k v : Value) (h : HS) : R HNext :=
  match mapO P t, m with
  | some (kt, _), .map (some id) =>
    match h.m.get id with
    | some (.map es clock) =>
      bif keyOK P false kt k then
        match findK P kt k es 0 with
        | some (some (i, e)) => bif Instr.sameBits 10000 e.key k then hput trk h id (.map (es.set i { e with key := k, val := v }) clock) undef else none
        | some none => hput trk h id (.map (es ++ [{ key := k, val := v, born := clock }]) (clock + 1)) undef
        | none => none
      else none
    | _ => none
  | _, _ => none

theorem MR.push {es : List MapEntry} {es' : Array MapEntry} {e e' : MapEntry} (hm : MR φ es es') (he : ER φ e e') : MR φ (es ++ [e]) (es'.push e') := by
  refine ⟨by simp [hm.1], fun i a b => ?_⟩
  have hs := hm.1
  by_cases q : i < es.length
  · rw [List.getElem_append_left q, Array.getElem_push_lt (by omega)]
    exact hm.2 i q (by omega)
  · have e1 : i = es.length := by simp at a; omega
    subst e1
    rw [List.getElem_append_right (by omega)]
    have : (es'.push e')[es.length]'b = e' := by
      have : es.length = es'.size := hs
      simp [this]
    rw [this]
    simpa using he

theorem MR.set {es : List MapEntry} {es' : Array MapEntry} {i : Nat} {e : MapEntry} (f : MapEntry → MapEntry) (hm : MR φ es es') (he : ∀ e', es'[i]? = some e' → ER φ e (f e')) : MR φ (es.set i e) (es'.modify i f) := by
  refine ⟨by simp [hm.1], fun j a b => ?_⟩
  have hs := hm.1
  by_cases q : i = j
  · subst q
    have hi : i < es'.size := by simp at b; exact b
    rw [List.getElem_set_self]
    have := he es'[i] (by simp [hi])
    simpa [Array.getElem_modify_self] using this
  · rw [List.getElem_set_ne q]
    have := hm.2 j (by simpa using a) (by simpa using b)
    simpa [Array.getElem_modify, q] using this

theorem snd_mapUpdate {t : TypeId} {m m' k k' v v' : Value} (hm : VR φ m m') (hk : VR φ k k') (hv : VR φ v v') : Snd P nG trk h φ G w (hmapUpdate P trk t m k v h) (unitS (Instr.mapUpdate t m' k' v')) := by
  unfold hmapUpdate
  cases ht : mapO P t with
  | none => exact snd_none
  | some p =>
    obtain ⟨kt, et⟩ := p
    cases hm <;> try exact snd_none
    case map id L hφ =>
      simp only
      cases hg : h.m.get id with
      | none => exact snd_none
      | some o =>
        cases o <;> try exact snd_none
        rename_i es clock
        simp only
        cases hko : keyOK P false kt k with
        | false => exact snd_none
        | true =>
          simp only [cond_true]
          have hkk : k' = k := VR.flat_eq 9 (by simp only [keyOK, Bool.and_eq_true] at hko; exact hko.1.1) hk
          have hud : (P.underlying kt).isSome = true := by simp only [keyOK, Bool.and_eq_true] at hko; exact hko.1.2
          subst hkk
          have hmap : WF h → Rel P nG φ G w → Agree (Log.wr trk [id]) h G → ∃ es', w.heap[L.blk]? = some (.map es' clock) ∧ MR φ es es' := by
            intro hwf r a
            obtain ⟨M, ob, e1, e2, es', e3, e4⟩ := r.live id _ (a.wr_get hwf hg)
            rw [hφ] at e1; cases e1
            exact ⟨es', by rw [e2, e3], e4⟩
          have hset : ∀ (ob : Obj) {es' : Array MapEntry}, w.heap[L.blk]? = some (.map es' clock) →
              (setObj L.blk ob).run P w = .ok () { w with heap := w.heap.setIfInBounds L.blk ob } ∧ (w.heap.setIfInBounds L.blk ob).size = w.heap.size ∧
              (∀ b, b ≠ L.blk → (w.heap.setIfInBounds L.blk ob)[b]? = w.heap[b]?) ∧ (w.heap.setIfInBounds L.blk ob)[L.blk]? = some ob := by
            intro ob es' he
            have hlt := (Array.getElem?_eq_some_iff.1 he).1
            exact ⟨by simp [setObj, Sem.run, he], by simp, fun b hb => by rw [Array.getElem?_setIfInBounds_ne (Ne.symm hb)], by simp [hlt]⟩
          cases hf : findK P kt k' es 0 with
          | none => exact snd_none
          | some r =>
            cases r with
            | none =>
              simp only
              by_cases hR : WF h ∧ Rel P nG φ G w ∧ Agree (Log.wr trk [id]) h G
              · obtain ⟨hwf, r, a⟩ := hR
                obtain ⟨es', e1, e2⟩ := hmap hwf r a
                obtain ⟨r', k1, k2⟩ := findK_run w es es'.toList 0 none e2.list hf
                simp only at k2
                subst k2
                obtain ⟨s1, s2, s3, s4⟩ := hset (.map (es'.push { key := k', val := v', born := clock }) (clock + 1)) e1
                refine snd_put (y := .skip) (w' := { w with heap := w.heap.setIfInBounds L.blk (.map (es'.push { key := k', val := v', born := clock }) (clock + 1)) }) hg fun _ _ _ => ⟨L, _, hφ, ?_, s2, s3, s4, rfl, rfl, rfl, ?_, .inr ⟨rfl, rfl⟩⟩
                · simp [unitS, Instr.mapUpdate, run_underlying (map_under ht), getObj, Sem.run, e1, keyOK_run hko, findKey_run hud, k1, s1]
                · exact ⟨_, rfl, e2.push ⟨hk, hv, rfl⟩⟩
              · intro x h' ℓ e hwf r a hf
                exfalso
                refine hR ⟨hwf, r, ?_⟩
                unfold hput at e
                cases q : Nat.blt id keyMax <;> simp [q] at e
                obtain ⟨_, _, rfl⟩ := e
                exact a
            | some p =>
              obtain ⟨j, e⟩ := p
              simp only
              cases hsb : Instr.sameBits 10000 e.key k' with
              | false => exact snd_none
              | true =>
                simp only [cond_true]
                by_cases hR : WF h ∧ Rel P nG φ G w ∧ Agree (Log.wr trk [id]) h G
                · obtain ⟨hwf, r, a⟩ := hR
                  obtain ⟨es', e1, e2⟩ := hmap hwf r a
                  obtain ⟨r', k1, q1, q2, q3, e', q4, q5, q6⟩ := findK_run w es es'.toList 0 _ e2.list hf
                  subst q6
                  simp only [Nat.sub_zero, Array.getElem?_toList] at q2 q4
                  have hke : e'.key = e.key := VR.flat_eq 9 q3 q5.1
                  obtain ⟨s1, s2, s3, s4⟩ := hset (.map (es'.modify j fun e => { e with key := k', val := v' }) clock) e1
                  refine snd_put (y := .skip) (w' := { w with heap := w.heap.setIfInBounds L.blk (.map (es'.modify j fun e => { e with key := k', val := v' }) clock) }) hg fun _ _ _ => ⟨L, _, hφ, ?_, s2, s3, s4, rfl, rfl, rfl, ?_, .inr ⟨rfl, rfl⟩⟩
                  · simp [unitS, Instr.mapUpdate, run_underlying (map_under ht), getObj, Sem.run, e1, keyOK_run hko, findKey_run hud, k1, q4, Instr.keyThatStays, hke, hsb, s1]
                  · refine ⟨_, rfl, MR.set (e := { e with key := k', val := v }) (fun e => { e with key := k', val := v' }) e2 fun e'' he'' => ?_⟩
                    rw [q4] at he''
                    cases he''
                    exact ⟨hk, hv, q5.2.2⟩
                · intro x h' ℓ e hwf r a hf
                  exfalso
                  refine hR ⟨hwf, r, ?_⟩
                  unfold hput at e
                  cases q : Nat.blt id keyMax <;> simp [q] at e
                  obtain ⟨_, _, rfl⟩ := e
                  exact a
    all_goals (split <;> first | exact snd_none | simp_all)

/-- A new map. -/
theorem snd_makeMap {t : TypeId} {x : Option Value} (hx : x = none ∨ (mapO P t).isSome = true ∧ ∃ k n, x = some (.int k n)) : Snd P nG trk h φ G w (hnew trk h (.map [] 0) fun id => .map (some id)) (valS (Instr.makeMap t x)) := by
  refine snd_new (L := ⟨w.heap.size, 0, 0, 0, false⟩) (ob := .map #[] 0) (v' := .map (some w.heap.size)) ?_ rfl ?_ ?_
  · rcases hx with rfl | ⟨h1, k, n, rfl⟩
    · simp [Instr.makeMap]
    · cases ht : mapO P t with
      | none => simp [ht] at h1
      | some p =>
        obtain ⟨kt, et⟩ := p
        simp [Instr.makeMap, run_underlying (map_under ht), asInt, asIntOf]
  · intro ψ _ _
    exact ⟨#[], rfl, rfl, fun i a => by simp at a⟩
  · intro ψ hψ
    exact .map hψ

/-- 'len'. -/
def hlen (P : Program) (trk : Bool) (t : TypeId) (x : Value) (h : HS) : R HNext :=
  match P.underlying t with
  | some .string => match x with
    | .string s => ret trk h (goInt s.size)
    | _ => none
  | some (.slice _) => match x with
    | .slice _ l _ => ret trk h (goInt l)
    | _ => none
  | some (.array n _) => ret trk h (goInt n)
  | some (.map _ _) => match x with
    | .map none => ret trk h (goInt 0)
    | .map (some id) => match h.m.get id with
      | some (.map es _) => some (.val (goInt es.length), h, Log.rd trk [id])
      | _ => none
    | _ => none
  | _ => none

theorem snd_len {t ty : TypeId} {x x' : Value} {ts : Array TypeId} (hx : VR φ x x') (ht : ts[0]? = some t) : Snd P nG trk h φ G w (hlen P trk t x h) (valS (Builtin.len_ ts ty #[x'])) := by
  unfold hlen
  cases hu : P.underlying t with
  | none => exact snd_none
  | some d =>
    cases d <;> try exact snd_none
    case string =>
      cases hx <;> try exact snd_none
      exact snd_ret fun _ => snd_val (v' := goInt _) (by simp [Builtin.len_, ht, run_underlying hu]) (.int _ _)
    case slice =>
      cases hx <;> try exact snd_none
      all_goals exact snd_ret fun _ => snd_val (v' := goInt _) (by simp [Builtin.len_, ht, run_underlying hu]) (.int _ _)
    case array =>
      exact snd_ret fun _ => snd_val (v' := goInt _) (by simp [Builtin.len_, ht, run_underlying hu]) (.int _ _)
    case map =>
      cases hx <;> try exact snd_none
      case nilMap => exact snd_ret fun _ => snd_val (v' := goInt 0) (by simp [Builtin.len_, ht, run_underlying hu]) (.int _ _)
      case map id L hφ =>
        simp only
        cases hg : h.m.get id with
        | none => exact snd_none
        | some o =>
          cases o <;> try exact snd_none
          rename_i es clock
          refine snd_rd fun hwf r a => ?_
          obtain ⟨M, ob, e1, e2, es', e3, e4⟩ := r.live id _ (a.rd_get (by simp) hwf hg)
          rw [hφ] at e1; cases e1
          subst e3
          refine snd_val (v' := goInt es'.size) ?_ (by rw [e4.1]; exact .int _ _)
          simp [Builtin.len_, ht, run_underlying hu, getObj, Sem.run, e2]

end
end Go.Proofs.YthiaocbikmiciaaGreatDoor.H
namespace Go.Proofs.YthiaocbikmiciaaGreatDoor.H
section
variable {P : Program} {nG : Nat} {trk : Bool} {h : HS} {φ : Phi} {G : AMap} {w : World}

def Log.mk (trk : Bool) (t u : List Nat) : Log := bif trk then some (t, u) else none
theorem Log.mk_isSome (trk : Bool) (t u : List Nat) : (Log.mk trk t u).isSome = trk := by cases trk <;> rfl

theorem Agree.mk_get {t u : List Nat} {k : Nat} {o : AObj} (a : Agree (Log.mk trk t u) h G) (hm : k ∈ t) (hw : WF h) (hg : h.m.get k = some o) : G k = some o := by
  cases trk with
  | false => rw [a k, hg]
  | true =>
    refine (a k hm ?_).trans hg
    rcases Nat.lt_or_ge k h.next with q | q
    · exact q
    · rw [hw k q] at hg; cases hg

/-- Behind an append that takes a new block: the new one, and perhaps an old one that is no more. -/
def HS.grow (h : HS) (kill : Option Nat) (o : AObj) : HS := ⟨((kill.elim h.m (fun k => h.m.put k none))).put h.next (some o), h.next + 1⟩

theorem HS.get_grow {kill : Option Nat} {o : AObj} (hk : h.next < keyMax) (hkill : ∀ k, kill = some k → k < keyMax) (id : Nat) :
    (h.grow kill o).m.get id = if id = h.next then some o else if kill = some id then none else h.m.get id := by
  simp only [HS.grow]
  rw [Tr.get_put _ _ _ _ hk]
  by_cases e : id = h.next
  · simp [e]
  · simp only [e, if_false]
    cases kill with
    | none => simp
    | some k =>
      simp only [Option.elim_some]
      rw [Tr.get_put _ _ _ _ (hkill k rfl)]
      by_cases q : id = k
      · subst q; simp
      · have : ¬ (some k = some id) := by simpa using Ne.symm q
        simp [q, this]

theorem Upd_grow {kill : Option Nat} {o : AObj} {t : List Nat} (hk : h.next < keyMax) (hkill : ∀ k, kill = some k → k < keyMax) (a : Agree (Log.mk trk t kill.toList) h G) (id : Nat) :
    Upd (Log.mk trk t kill.toList) h (h.grow kill o) G id = if id = h.next then some o else if kill = some id then none else G id := by
  cases trk with
  | false => simp only [Upd, Log.mk, cond_false, HS.get_grow hk hkill]; rw [a id]
  | true =>
    simp only [Upd, Log.mk, cond_true, HS.get_grow hk hkill]
    by_cases e : id = h.next
    · subst e; simp [HS.grow]
    · by_cases q : kill = some id
      · simp [e, q]
      · have h1 : ¬ (h.next ≤ id ∧ id < (h.grow kill o).next) := by simp only [HS.grow]; omega
        have h2 : id ∉ kill.toList := by simpa using q
        simp [e, q, h1, h2]

theorem LogOK.grow {kill : Option Nat} {o : AObj} {t : List Nat} (hk : h.next < keyMax) (hkill : ∀ k, kill = some k → k < keyMax) : LogOK (Log.mk trk t kill.toList) h (h.grow kill o) := by
  refine ⟨Nat.le_succ _, ?_⟩
  cases trk with
  | false => trivial
  | true =>
    intro id h1 h2
    rw [HS.get_grow hk hkill, if_neg (fun e => h2 ⟨by omega, by simp only [HS.grow]; omega⟩), if_neg (by simpa using h1)]

theorem WF.grow {kill : Option Nat} {o : AObj} (hk : h.next < keyMax) (hkill : ∀ k, kill = some k → k < keyMax) (hw : WF h) : WF (h.grow kill o) := fun id hi => by
  rw [HS.get_grow hk hkill, if_neg (by simp only [HS.grow] at hi; omega)]
  split
  · rfl
  · exact hw id (by simp only [HS.grow] at hi; omega)

theorem Post.grow {kill : Option Nat} {o : AObj} {ob : Obj} {L : Loc} {t : List Nat} {w' : World} (hk : h.next < keyMax) (hkill : ∀ k, kill = some k → k < keyMax) (r : Rel P nG φ G w)
    (a : Agree (Log.mk trk t kill.toList) h G) (hf : Fresh φ G h (h.grow kill o))
    (hw : (L.blk = w.heap.size ∧ w'.heap = w.heap.push ob) ∨ (∃ k L₀ o₀, kill = some k ∧ G k = some o₀ ∧ φ k = some L₀ ∧ L.blk = L₀.blk ∧ w'.heap.size = w.heap.size ∧ (∀ b, b ≠ L.blk → w'.heap[b]? = w.heap[b]?) ∧ w'.heap[L.blk]? = some ob))
    (ht : w'.tape = w.tape) (ho : w'.os = w.os) (hu : w'.output = w.output) (hO : OR P nG (fun id => if id = h.next then some L else φ id) L o ob) :
    Post P nG (Log.mk trk t kill.toList) h (h.grow kill o) φ G w (fun id => if id = h.next then some L else φ id) w' := by
  have hfr := hf h.next (Nat.le_refl _) (Nat.lt_succ_self _)
  have hle : Le φ (fun id => if id = h.next then some L else φ id) := fun id M e => by
    by_cases q : id = h.next
    · subst q; rw [hfr.1] at e; cases e
    · simp [q, e]
  have hblk : ∀ id o L, G id = some o → φ id = some L → L.blk < w.heap.size := fun id o M h1 h2 => by
    obtain ⟨M', ob', e1, e2, _⟩ := r.live id o h1
    rw [h2] at e1; cases e1
    exact (Array.getElem?_eq_some_iff.1 e2).1
  have hnew : w'.heap[L.blk]? = some ob := by
    rcases hw with ⟨h1, h2⟩ | ⟨_, _, _, _, _, _, _, _, _, h7⟩
    · rw [h2, h1]; simp
    · exact h7
  have hold : ∀ b, b < w.heap.size → b ≠ L.blk → w'.heap[b]? = w.heap[b]? := fun b hb hne => by
    rcases hw with ⟨h1, h2⟩ | ⟨_, _, _, _, _, _, _, _, h6, _⟩
    · rw [h2, Array.getElem?_push, if_neg (by omega)]
    · exact h6 b hne
  have hsz : w.heap.size ≤ w'.heap.size := by
    rcases hw with ⟨_, h2⟩ | ⟨_, _, _, _, _, _, _, h5, _, _⟩
    · rw [h2]; simp
    · omega
  have hsep : ∀ id o M, G id = some o → φ id = some M → kill ≠ some id → M.blk ≠ L.blk := fun id o M h1 h2 h3 h4 => by
    rcases hw with ⟨q1, _⟩ | ⟨k, L₀, o₀, q1, q2, q3, q4, _⟩
    · have := hblk id o M h1 h2; omega
    · have := r.inj id k o o₀ M L₀ h1 q2 h2 q3 (h4.trans q4)
      subst this
      exact h3 q1
  constructor
  · exact hle
  · intro id M h1 h2
    by_cases q : id = h.next
    · subst q; exact ⟨Nat.le_refl _, Nat.lt_succ_self _⟩
    · simp only [q, if_false] at h1; rw [h1] at h2; cases h2
  · constructor
    · intro id o' hG
      rw [Upd_grow hk hkill a] at hG
      by_cases q : id = h.next
      · subst q
        simp only [if_true, Option.some.injEq] at hG
        subst hG
        exact ⟨L, ob, by simp, hnew, hO⟩
      · simp only [q, if_false] at hG
        by_cases q2 : kill = some id
        · simp [q2] at hG
        · simp only [q2, if_false] at hG
          obtain ⟨M, ob', e1, e2, e3⟩ := r.live id o' hG
          exact ⟨M, ob', by simp [q, e1], by rw [hold _ (hblk id o' M hG e1) (hsep id o' M hG e1 q2)]; exact e2, e3.mono hle⟩
    · intro i j oi oj Li Lj h1 h2 h3 h4 h5
      rw [Upd_grow hk hkill a] at h1 h2
      by_cases qi : i = h.next
      · by_cases qj : j = h.next
        · rw [qi, qj]
        · simp only [qi, if_true, Option.some.injEq] at h3
          simp only [qj, if_false] at h2 h4
          by_cases q2 : kill = some j
          · simp [q2] at h2
          · simp only [q2, if_false] at h2
            subst h3
            exact absurd h5.symm (hsep j oj Lj h2 h4 q2)
      · by_cases qj : j = h.next
        · simp only [qj, if_true, Option.some.injEq] at h4
          simp only [qi, if_false] at h1 h3
          by_cases q2 : kill = some i
          · simp [q2] at h1
          · simp only [q2, if_false] at h1
            subst h4
            exact absurd h5 (hsep i oi Li h1 h3 q2)
        · simp only [qi, qj, if_false] at h1 h2 h3 h4
          by_cases q2 : kill = some i
          · simp [q2] at h1
          · by_cases q3 : kill = some j
            · simp [q3] at h2
            · simp only [q2, q3, if_false] at h1 h2
              exact r.inj i j oi oj Li Lj h1 h2 h3 h4 h5
    · intro g hg
      obtain ⟨M, e1, e2⟩ := r.glob g hg
      exact ⟨M, hle _ _ e1, e2⟩
  · intro b hb hno
    refine hold b hb fun e => ?_
    rcases hw with ⟨q1, _⟩ | ⟨k, L₀, o₀, q1, q2, q3, q4, _⟩
    · omega
    · exact hno k o₀ L₀ q2 q3 (by omega)
  · intro id o' M h1 h2 h3
    rw [Upd_grow hk hkill a] at h1
    by_cases q : id = h.next
    · simp only [q, if_true, Option.some.injEq] at h2
      subst h2
      rcases hw with ⟨q1, _⟩ | ⟨k, L₀, o₀, q1, q2, q3, q4, _⟩
      · omega
      · exact ⟨k, o₀, L₀, q2, q3, q4.symm⟩
    · simp only [q, if_false] at h1 h2
      by_cases q2 : kill = some id
      · simp [q2] at h1
      · simp only [q2, if_false] at h1
        exact ⟨id, o', M, h1, h2, rfl⟩
  · exact hsz
  · exact ht
  · exact ho
  · exact hu
  · exact LogOK.grow hk hkill
  · exact fun hw' => WF.grow hk hkill hw'

end
end Go.Proofs.YthiaocbikmiciaaGreatDoor.H
