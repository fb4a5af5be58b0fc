/- The machine that is run by the kernel, part 0: no claim of its own. -/
import Derived.Calls
import Derived.Laws.Sem
/- The abstract machine's data: a binary map, heaps, the relation between abstract and concrete memory. -/
namespace Go.Proofs.YthiaocbikmiciaaGreatDoor.H
section

/-! ### A map from numbers -/
inductive Tr (α : Type) where
  | leaf
  | node (l : Tr α) (x : Option α) (r : Tr α)

def Tr.get {α : Type} : Tr α → Nat → Option α
  | .leaf, _ => none
  | .node l x r, i => bif i.beq 0 then x else bif (i % 2).beq 1 then l.get (i / 2) else r.get (i / 2 - 1)

def Tr.set {α : Type} : Nat → Tr α → Nat → Option α → Tr α
  | 0, t, _, _ => t
  | n + 1, .leaf, i, v =>
    bif i.beq 0 then .node .leaf v .leaf
    else bif (i % 2).beq 1 then .node (Tr.set n .leaf (i / 2) v) none .leaf
    else .node .leaf none (Tr.set n .leaf (i / 2 - 1) v)
  | n + 1, .node l x r, i, v =>
    bif i.beq 0 then .node l v r
    else bif (i % 2).beq 1 then .node (Tr.set n l (i / 2) v) x r
    else .node l x (Tr.set n r (i / 2 - 1) v)

theorem Tr.get_leaf {α : Type} (i : Nat) : (Tr.leaf : Tr α).get i = none := rfl

theorem beq_zero_false {i : Nat} (h : i ≠ 0) : i.beq 0 = false := by
  cases i with
  | zero => exact absurd rfl h
  | succ n => rfl

theorem Tr.get_set {α : Type} (v : Option α) : ∀ (n : Nat) (t : Tr α) (i j : Nat), i + 1 < 2 ^ n → (Tr.set n t i v).get j = if j = i then v else t.get j := by
  intro n
  induction n with
  | zero => intro t i j h; simp at h
  | succ n ih =>
    intro t i j h
    have hp : 2 ^ (n + 1) = 2 * 2 ^ n := by rw [Nat.pow_succ]; omega
    have hb : ∀ a b : Nat, a.beq b = decide (a = b) := fun a b => by
      rw [Bool.eq_iff_iff]; simp [Nat.beq_eq]
    cases t with
    | leaf =>
      simp only [Tr.set, hb]
      by_cases h0 : i = 0
      · subst h0
        simp only [decide_true, cond_true, Tr.get, hb]
        by_cases hj : j = 0 <;> simp [hj]
      · by_cases h1 : i % 2 = 1
        · simp only [h0, h1, decide_true, decide_false, cond_true, cond_false, Tr.get, hb]
          by_cases hj0 : j = 0
          · subst hj0; simp; intro h'; omega
          · by_cases hj1 : j % 2 = 1
            · simp only [hj0, hj1, decide_true, decide_false, cond_true, cond_false]
              rw [ih _ _ _ (by omega)]
              by_cases hji : j = i
              · subst hji; simp
              · have : j / 2 ≠ i / 2 := by omega
                simp [hji, this, Tr.get]
            · simp only [hj0, hj1, decide_false, cond_false]
              have : j ≠ i := by omega
              simp [this]
        · simp only [h0, h1, decide_false, cond_false, Tr.get, hb]
          by_cases hj0 : j = 0
          · subst hj0; simp; intro h'; omega
          · by_cases hj1 : j % 2 = 1
            · simp only [hj0, hj1, decide_true, decide_false, cond_true, cond_false]
              have : j ≠ i := by omega
              simp [this]
            · simp only [hj0, hj1, decide_false, cond_false]
              rw [ih _ _ _ (by omega)]
              by_cases hji : j = i
              · subst hji; simp
              · have : j / 2 - 1 ≠ i / 2 - 1 := by omega
                simp [hji, this, Tr.get]
    | node l x r =>
      simp only [Tr.set, hb]
      by_cases h0 : i = 0
      · subst h0
        simp only [decide_true, cond_true, Tr.get, hb]
        by_cases hj : j = 0 <;> simp [hj]
      · by_cases h1 : i % 2 = 1
        · simp only [h0, h1, decide_true, decide_false, cond_true, cond_false, Tr.get, hb]
          by_cases hj0 : j = 0
          · subst hj0; simp; intro h'; omega
          · by_cases hj1 : j % 2 = 1
            · simp only [hj0, hj1, decide_true, decide_false, cond_true, cond_false]
              rw [ih _ _ _ (by omega)]
              by_cases hji : j = i
              · subst hji; simp
              · have : j / 2 ≠ i / 2 := by omega
                simp [hji, this]
            · simp only [hj0, hj1, decide_false, cond_false]
              have : j ≠ i := by omega
              simp [this]
        · simp only [h0, h1, decide_false, cond_false, Tr.get, hb]
          by_cases hj0 : j = 0
          · subst hj0; simp; intro h'; omega
          · by_cases hj1 : j % 2 = 1
            · simp only [hj0, hj1, decide_true, decide_false, cond_true, cond_false]
              have : j ≠ i := by omega
              simp [this]
            · simp only [hj0, hj1, decide_false, cond_false]
              rw [ih _ _ _ (by omega)]
              by_cases hji : j = i
              · subst hji; simp
              · have : j / 2 - 1 ≠ i / 2 - 1 := by omega
                simp [hji, this]

/-- How large a key may be. -/
def keyMax : Nat := 2 ^ 48

def Tr.put {α : Type} (t : Tr α) (i : Nat) (v : Option α) : Tr α := Tr.set 49 t i v

theorem Tr.get_put {α : Type} (t : Tr α) (i j : Nat) (v : Option α) (h : i < keyMax) : (t.put i v).get j = if j = i then v else t.get j :=
  Tr.get_set v 49 t i j (by unfold keyMax at h; omega)

end
end Go.Proofs.YthiaocbikmiciaaGreatDoor.H
namespace Go.Proofs.YthiaocbikmiciaaGreatDoor.H
section

/-- Where an abstract block lies: the concrete block, from which cell on, how many cells that has, how many an element, and whether a slice of it may have more room than is known. -/
structure Loc where
  blk : Nat
  base : Nat
  size : Nat
  esz : Nat
  grown : Bool

abbrev Phi := Nat → Option Loc

/-- Abstract loops over functions. -/
structure ALoop where
  state : LoopState
  pending : Option Code
  tmps : Tr Value
  ntmps : Nat
  fn : FuncId
  params : Array Tmp
  assign : Code
  body : Code
  dfr : Nat

inductive AObj where
  | cells (cs : List Value) (elem : TypeId) (grown : Bool)
  | map (es : List MapEntry) (clock : Nat)
  | loop (l : ALoop)
  | deferred (ds : Option (List Deferred))

/-- Abstract memory. -/
structure HS where
  m : Tr AObj
  next : Nat

/-- The block that the frame of a round is of. -/
def FnR (φ : Phi) : Fn → Fn → Prop
  | .yield l, f => ∃ L, φ l = some L ∧ f = .yield L.blk
  | f, g => f = g

inductive VR (φ : Phi) : Value → Value → Prop
  | bool (b : Bool) : VR φ (.bool b) (.bool b)
  | int (k : IntKind) (n : Int) : VR φ (.int k n) (.int k n)
  | float (k : FloatKind) (n : Nat) : VR φ (.float k n) (.float k n)
  | string (s : ByteArray) : VR φ (.string s) (.string s)
  | nilPointer : VR φ (.pointer none) (.pointer none)
  | pointer {id : Nat} {L : Loc} (off : Nat) (h : φ id = some L) : VR φ (.pointer (some ⟨id, off, none⟩)) (.pointer (some ⟨L.blk, L.base + off, none⟩))
  | nilSlice (l c : Nat) : VR φ (.slice none l c) (.slice none l c)
  | slice {id : Nat} {L : Loc} (off l c : Nat) (h : φ id = some L) (hg : L.grown = false) : VR φ (.slice (some ⟨id, off, none⟩) l c) (.slice (some ⟨L.blk, L.base + off, none⟩) l c)
  | sliceG {id : Nat} {L : Loc} (off off' l c c' : Nat) (h : φ id = some L) (hg : L.grown = true) (hl : l ≤ c) (hc : c ≤ c') (hs : off' + c' * L.esz ≤ L.size) (ho : 0 < c → off' = L.base + off) :
      VR φ (.slice (some ⟨id, off, none⟩) l c) (.slice (some ⟨L.blk, off', none⟩) l c')
  | nilMap : VR φ (.map none) (.map none)
  | map {id : Nat} {L : Loc} (h : φ id = some L) : VR φ (.map (some id)) (.map (some L.blk))
  | func {f g : Fn} {xs ys zs ws : Array Value} (h : FnR φ f g) (h1 : xs.size = ys.size) (h2 : zs.size = ws.size)
      (h3 : ∀ i (a : i < xs.size) (b : i < ys.size), VR φ xs[i] ys[i]) (h4 : ∀ i (a : i < zs.size) (b : i < ws.size), VR φ zs[i] ws[i]) : VR φ (.func f xs zs) (.func g ys ws)
  | nilFunc : VR φ .nilFunc .nilFunc
  | iface (t : TypeId) {v w : Value} (h : VR φ v w) : VR φ (.iface t v) (.iface t w)
  | nilIface : VR φ .nilIface .nilIface
  | top {v : Value} (h : v.oneCell' = true) (hb : ∀ b, v ≠ .bool b) : VR φ (.chan none) v
  | agg {xs ys : Array Value} (h1 : xs.size = ys.size) (h2 : ∀ i (a : i < xs.size) (b : i < ys.size), VR φ xs[i] ys[i]) : VR φ (.agg xs) (.agg ys)
  | tuple {xs ys : Array Value} (h1 : xs.size = ys.size) (h2 : ∀ i (a : i < xs.size) (b : i < ys.size), VR φ xs[i] ys[i]) : VR φ (.tuple xs) (.tuple ys)

/-- One map goes on another. -/
def Le (φ ψ : Phi) : Prop := ∀ id L, φ id = some L → ψ id = some L

theorem Le.refl (φ : Phi) : Le φ φ := fun _ _ h => h
theorem Le.trans {φ ψ χ : Phi} (h : Le φ ψ) (k : Le ψ χ) : Le φ χ := fun id L e => k id L (h id L e)

theorem FnR.mono {φ ψ : Phi} (hl : Le φ ψ) {f g : Fn} (h : FnR φ f g) : FnR ψ f g := by
  cases f <;> simp only [FnR] at h ⊢ <;> try exact h
  obtain ⟨L, h1, h2⟩ := h
  exact ⟨L, hl _ _ h1, h2⟩

theorem VR.mono {φ ψ : Phi} (hl : Le φ ψ) {v w : Value} (h : VR φ v w) : VR ψ v w := by
  induction h with
  | bool b => exact .bool b
  | int k n => exact .int k n
  | float k n => exact .float k n
  | string s => exact .string s
  | nilPointer => exact .nilPointer
  | pointer off h => exact .pointer off (hl _ _ h)
  | nilSlice l c => exact .nilSlice l c
  | slice off l c h hg => exact .slice off l c (hl _ _ h) hg
  | sliceG off off' l c c' h hg h1 h2 h3 h4 => exact .sliceG off off' l c c' (hl _ _ h) hg h1 h2 h3 h4
  | nilMap => exact .nilMap
  | map h => exact .map (hl _ _ h)
  | func h h1 h2 _ _ ih3 ih4 => exact .func (h.mono hl) h1 h2 ih3 ih4
  | nilFunc => exact .nilFunc
  | iface t _ ih => exact .iface t ih
  | nilIface => exact .nilIface
  | top h hb => exact .top h hb
  | agg h1 _ ih => exact .agg h1 ih
  | tuple h1 _ ih => exact .tuple h1 ih

/-- Related lists. -/
def LR (φ : Phi) (xs ys : List Value) : Prop := xs.length = ys.length ∧ ∀ i (a : i < xs.length) (b : i < ys.length), VR φ xs[i] ys[i]

theorem LR.mono {φ ψ : Phi} (hl : Le φ ψ) {xs ys : List Value} (h : LR φ xs ys) : LR ψ xs ys := ⟨h.1, fun i a b => (h.2 i a b).mono hl⟩
theorem LR.nil {φ : Phi} : LR φ [] [] := ⟨rfl, fun i a => by simp at a⟩
theorem LR.cons {φ : Phi} {x y : Value} {xs ys : List Value} (h : VR φ x y) (k : LR φ xs ys) : LR φ (x :: xs) (y :: ys) :=
  ⟨by simp [k.1], fun i a b => by
    cases i with
    | zero => exact h
    | succ i => exact k.2 i (by simpa using a) (by simpa using b)⟩
theorem LR.append {φ : Phi} {xs ys zs ws : List Value} (h : LR φ xs ys) (k : LR φ zs ws) : LR φ (xs ++ zs) (ys ++ ws) := by
  refine ⟨by simp [h.1, k.1], fun i a b => ?_⟩
  by_cases hi : i < xs.length
  · rw [List.getElem_append_left hi, List.getElem_append_left (h.1 ▸ hi)]; exact h.2 i hi _
  · rw [List.getElem_append_right (by omega), List.getElem_append_right (by have := h.1; omega)]
    have e := h.1
    have : i - ys.length = i - xs.length := by omega
    simp only [this]
    exact k.2 _ _ _
theorem LR.take {φ : Phi} {xs ys : List Value} (n : Nat) (h : LR φ xs ys) : LR φ (xs.take n) (ys.take n) :=
  ⟨by simp [h.1], fun i a b => by rw [List.getElem_take, List.getElem_take]; exact h.2 i _ _⟩
theorem LR.drop {φ : Phi} {xs ys : List Value} (n : Nat) (h : LR φ xs ys) : LR φ (xs.drop n) (ys.drop n) :=
  ⟨by simp [h.1], fun i a b => by rw [List.getElem_drop, List.getElem_drop]; exact h.2 _ _ _⟩
theorem LR.get? {φ : Phi} {xs ys : List Value} (h : LR φ xs ys) (i : Nat) {v : Value} (hv : xs[i]? = some v) : ∃ w, ys[i]? = some w ∧ VR φ v w := by
  obtain ⟨hi, rfl⟩ := List.getElem?_eq_some_iff.1 hv
  have hj : i < ys.length := h.1 ▸ hi
  exact ⟨ys[i], List.getElem?_eq_getElem hj, h.2 i hi hj⟩

theorem VR.cells {φ : Phi} {v w : Value} (h : VR φ v w) : LR φ v.cells.toList w.cells.toList := by
  cases h
  case top h hb =>
    have : w.cells = #[w] := by cases w <;> simp_all [Value.cells, Value.oneCell']
    rw [this]
    exact LR.cons (.top h hb) LR.nil
  case agg xs ys h1 h2 => exact ⟨by simpa [Value.cells] using h1, fun i a b => h2 i (by simpa [Value.cells] using a) (by simpa [Value.cells] using b)⟩
  all_goals (simp only [Value.cells]; refine LR.cons ?_ LR.nil)
  case bool => exact .bool _
  case int => exact .int _ _
  case float => exact .float _ _
  case string => exact .string _
  case nilPointer => exact .nilPointer
  case pointer h => exact .pointer _ h
  case nilSlice => exact .nilSlice _ _
  case slice h hg => exact .slice _ _ _ h hg
  case sliceG h hg h1 h2 h3 h4 => exact .sliceG _ _ _ _ _ h hg h1 h2 h3 h4
  case nilMap => exact .nilMap
  case map h => exact .map h
  case func h h1 h2 h3 h4 => exact .func h h1 h2 h3 h4
  case nilFunc => exact .nilFunc
  case iface h => exact .iface _ h
  case nilIface => exact .nilIface
  case tuple h1 h2 => exact .tuple h1 h2

theorem VR.of_LR {φ : Phi} {xs ys : List Value} (h : LR φ xs ys) : VR φ (.agg xs.toArray) (.agg ys.toArray) :=
  .agg (by simpa using h.1) fun i a b => by simpa using h.2 i (by simpa using a) (by simpa using b)
theorem VR.tuple_of_LR {φ : Phi} {xs ys : List Value} (h : LR φ xs ys) : VR φ (.tuple xs.toArray) (.tuple ys.toArray) :=
  .tuple (by simpa using h.1) fun i a b => by simpa using h.2 i (by simpa using a) (by simpa using b)

/-- A value without addresses (looked at to a depth). -/
def flat : Nat → Value → Bool
  | 0, _ => false
  | n + 1, v => match v with
    | .bool _ | .int _ _ | .float _ _ | .string _ | .pointer none | .slice none _ _ | .map none | .nilFunc | .nilIface => true
    | .func f xs ys => (match f with | .yield _ => false | _ => true) && xs.toList.all (flat n) && ys.toList.all (flat n)
    | .iface _ v => flat n v
    | .agg xs => xs.toList.all (flat n)
    | .tuple xs => xs.toList.all (flat n)
    | _ => false

theorem VR.of_flat {φ : Phi} : ∀ (n : Nat) {v : Value}, flat n v = true → VR φ v v := by
  intro n
  induction n with
  | zero => intro v h; simp [flat] at h
  | succ n ih =>
    have key : ∀ xs : Array Value, xs.toList.all (flat n) = true → ∀ i (a : i < xs.size) (b : i < xs.size), VR φ xs[i] xs[i] := by
      intro xs h i a b
      have := List.all_eq_true.1 h xs[i] (by simp)
      exact ih this
    intro v h
    cases v with
    | bool b => exact .bool b
    | int k n => exact .int k n
    | float k n => exact .float k n
    | complex => simp [flat] at h
    | string s => exact .string s
    | pointer a => cases a with
      | none => exact .nilPointer
      | some a => simp [flat] at h
    | slice a l c => cases a with
      | none => exact .nilSlice l c
      | some a => simp [flat] at h
    | map r => cases r with
      | none => exact .nilMap
      | some r => simp [flat] at h
    | chan r => simp [flat] at h
    | func f xs ys =>
      simp only [flat, Bool.and_eq_true] at h
      refine .func ?_ rfl rfl (key xs h.1.2) (key ys h.2)
      cases f <;> simp_all [FnR]
    | nilFunc => exact .nilFunc
    | iface t v => exact .iface t (ih (by simpa [flat] using h))
    | nilIface => exact .nilIface
    | agg xs => exact .agg rfl (key xs (by simpa [flat] using h))
    | tuple xs => exact .tuple rfl (key xs (by simpa [flat] using h))

theorem VR.undef {φ : Phi} : VR φ undef undef := .tuple rfl fun i a => by simp at a

/-- Temporaries: those of the abstract frame, and of the concrete one. -/
def TR (φ : Phi) (n : Nat) (t : Tr Value) (a : Array Value) : Prop := a.size = n ∧ ∀ i, VR φ ((t.get i).getD Go.undef) (a.getD i Go.undef)

theorem TR.mono {φ ψ : Phi} (hl : Le φ ψ) {n : Nat} {t : Tr Value} {a : Array Value} (h : TR φ n t a) : TR ψ n t a := ⟨h.1, fun i => (h.2 i).mono hl⟩

theorem TR.set {φ : Phi} {n : Nat} {t : Tr Value} {a : Array Value} (h : TR φ n t a) {d : Nat} {v v' : Value} (hd : d < n) (hk : d < keyMax) (hv : VR φ v v') : TR φ n (t.put d (some v)) (a.setIfInBounds d v') := by
  refine ⟨by simp [h.1], fun i => ?_⟩
  rw [Tr.get_put _ _ _ _ hk]
  have hs := h.1
  by_cases e : i = d
  · subst e
    simp [Array.getD, hs, hd, hv]
  · have := h.2 i
    have g : (a.setIfInBounds d v').getD i Go.undef = a.getD i Go.undef := by
      simp only [Array.getD_eq_getD_getElem?]
      rw [Array.getElem?_setIfInBounds_ne (Ne.symm e)]
    rw [g, if_neg e]
    exact this

end
end Go.Proofs.YthiaocbikmiciaaGreatDoor.H
namespace Go.Proofs.YthiaocbikmiciaaGreatDoor.H
section

/-- Map entries. -/
def ER (φ : Phi) (e e' : MapEntry) : Prop := VR φ e.key e'.key ∧ VR φ e.val e'.val ∧ e.born = e'.born
def MR (φ : Phi) (es : List MapEntry) (es' : Array MapEntry) : Prop := es.length = es'.size ∧ ∀ i (a : i < es.length) (b : i < es'.size), ER φ es[i] es'[i]

/-- Deferred calls. -/
def TgR (φ : Phi) : Target → Target → Prop
  | .fn f xs, t => ∃ g ys, t = .fn g ys ∧ FnR φ f g ∧ LR φ xs.toList ys.toList
  | .collected r, t => ∃ L, φ r = some L ∧ t = .collected L.blk
  | .nil, t => t = .nil
  | _, _ => False
def DR (φ : Phi) (d d' : Deferred) : Prop := TgR φ d.target d'.target ∧ LR φ d.args.toList d'.args.toList
def DsR (φ : Phi) : List Deferred → List Deferred → Prop
  | [], l => l = []
  | d :: ds, l => ∃ d' ds', l = d' :: ds' ∧ DR φ d d' ∧ DsR φ ds ds'

theorem ER.mono {φ ψ : Phi} (hl : Le φ ψ) {e e' : MapEntry} (h : ER φ e e') : ER ψ e e' := ⟨h.1.mono hl, h.2.1.mono hl, h.2.2⟩
theorem MR.mono {φ ψ : Phi} (hl : Le φ ψ) {es : List MapEntry} {es' : Array MapEntry} (h : MR φ es es') : MR ψ es es' := ⟨h.1, fun i a b => (h.2 i a b).mono hl⟩
theorem TgR.mono {φ ψ : Phi} (hl : Le φ ψ) {t t' : Target} (h : TgR φ t t') : TgR ψ t t' := by
  cases t <;> simp only [TgR] at h ⊢
  · obtain ⟨g, ys, h1, h2, h3⟩ := h; exact ⟨g, ys, h1, h2.mono hl, h3.mono hl⟩
  · exact h
  · obtain ⟨L, h1, h2⟩ := h; exact ⟨L, hl _ _ h1, h2⟩
theorem DR.mono {φ ψ : Phi} (hl : Le φ ψ) {d d' : Deferred} (h : DR φ d d') : DR ψ d d' := ⟨h.1.mono hl, h.2.mono hl⟩
theorem DsR.mono {φ ψ : Phi} (hl : Le φ ψ) : ∀ {ds ds' : List Deferred}, DsR φ ds ds' → DsR ψ ds ds'
  | [], _, h => h
  | d :: ds, _, h => by
    obtain ⟨d', ds', h1, h2, h3⟩ := h
    exact ⟨d', ds', h1, h2.mono hl, DsR.mono hl h3⟩

/-- May an operand stand in the code that is run? Constants bear no addresses; globals are below a number. -/
def okX (nG : Nat) : Operand → Bool
  | .tmp _ => true
  | .const v => flat 9 v
  | .global g => Nat.blt g nG
  | .func _ => true
def okOp (nG : Nat) (o : Oper) : Bool := o.op.operands.toList.all (okX nG)
def okC (nG : Nat) : Code → Bool
  | .region _ ops _ => ops.toList.all (okOp nG)
  | .seq a b => okC nG a && okC nG b
  | .cond c a b => okX nG c && okC nG a && okC nG b
  | .block _ c | .loop c | .scope c => okC nG c
  | .rangeFunc f _ a b => okX nG f && okC nG a && okC nG b
  | _ => true

/-- Objects. -/
def OR (P : Program) (nG : Nat) (φ : Phi) (L : Loc) : AObj → Obj → Prop
  | .cells cs elem grown, ob => ∃ c : Array Value, ob = .cells c elem (0, 0) ∧ c.size = L.size ∧ L.grown = grown ∧ L.esz = P.cellsOf elem ∧ L.base + cs.length ≤ L.size ∧
      (grown = false → L.base = 0 ∧ cs.length = L.size) ∧ ∀ i (a : i < cs.length), ∃ v, c[L.base + i]? = some v ∧ VR φ cs[i] v
  | .map es clock, ob => ∃ es', ob = .map es' clock ∧ MR φ es es'
  | .loop l, ob => ∃ (l' : Loop) (D : Loc), ob = .loop l' ∧ l'.state = l.state ∧ l'.pending = l.pending ∧ l'.fn = l.fn ∧ TR φ l.ntmps l.tmps l'.tmps ∧ l'.params = l.params ∧
      l'.assign = l.assign ∧ l'.body = l.body ∧ φ l.dfr = some D ∧ l'.defers = D.blk ∧ okC nG l.assign = true ∧ okC nG l.body = true
  | .deferred none, ob => ob = .deferred none
  | .deferred (some ds), ob => ∃ ds', ob = .deferred (some ds') ∧ DsR φ ds ds'

theorem OR.mono {P : Program} {nG : Nat} {φ ψ : Phi} (hl : Le φ ψ) {L : Loc} {o : AObj} {ob : Obj} (h : OR P nG φ L o ob) : OR P nG ψ L o ob := by
  cases o with
  | cells cs elem grown =>
    obtain ⟨c, h1, h2, h3, h4, h5, h6, h7⟩ := h
    exact ⟨c, h1, h2, h3, h4, h5, h6, fun i a => let ⟨v, e, r⟩ := h7 i a; ⟨v, e, r.mono hl⟩⟩
  | map es clock => obtain ⟨es', h1, h2⟩ := h; exact ⟨es', h1, h2.mono hl⟩
  | loop l =>
    obtain ⟨l', D, h1, h2, h3, h4, h5, h6, h7, h8, h9, h10⟩ := h
    exact ⟨l', D, h1, h2, h3, h4, h5.mono hl, h6, h7, h8, hl _ _ h9, h10⟩
  | deferred ds =>
    cases ds with
    | none => exact h
    | some ds => obtain ⟨ds', h1, h2⟩ := h; exact ⟨ds', h1, h2.mono hl⟩

abbrev AMap := Nat → Option AObj

/-- Abstract memory and a world. -/
structure Rel (P : Program) (nG : Nat) (φ : Phi) (G : AMap) (w : World) : Prop where
  live : ∀ id o, G id = some o → ∃ L ob, φ id = some L ∧ w.heap[L.blk]? = some ob ∧ OR P nG φ L o ob
  inj : ∀ i j oi oj Li Lj, G i = some oi → G j = some oj → φ i = some Li → φ j = some Lj → Li.blk = Lj.blk → i = j
  glob : ∀ g, g < nG → ∃ L, φ g = some L ∧ L.blk = g ∧ L.base = 0

/-- What a step of the abstract machine touched, and what it wrote; none: whatever. -/
abbrev Log := Option (List Nat × List Nat)
def Log.app : Log → Log → Log
  | some (t, w), some (t', w') => some (t ++ t', w ++ w')
  | _, _ => none
def Log.nil (trk : Bool) : Log := bif trk then some ([], []) else none
def Log.rd (trk : Bool) (l : List Nat) : Log := bif trk then some (l, []) else none
def Log.wr (trk : Bool) (l : List Nat) : Log := bif trk then some (l, l) else none

def Agree (ℓ : Log) (h : HS) (G : AMap) : Prop :=
  match ℓ with
  | none => ∀ id, G id = h.m.get id
  | some (t, _) => ∀ id, id ∈ t → id < h.next → G id = h.m.get id
def Upd (ℓ : Log) (h h' : HS) (G : AMap) : AMap :=
  match ℓ with
  | none => fun id => h'.m.get id
  | some (_, w) => fun id => if id ∈ w ∨ (h.next ≤ id ∧ id < h'.next) then h'.m.get id else G id
def LogOK (ℓ : Log) (h h' : HS) : Prop :=
  h.next ≤ h'.next ∧ match ℓ with
  | none => True
  | some (_, w) => ∀ id, id ∉ w → ¬ (h.next ≤ id ∧ id < h'.next) → h'.m.get id = h.m.get id
def Fresh (φ : Phi) (G : AMap) (h h' : HS) : Prop := ∀ id, h.next ≤ id → id < h'.next → φ id = none ∧ G id = none

theorem Log.app_isSome {ℓ₁ ℓ₂ : Log} {b : Bool} (h₁ : ℓ₁.isSome = b) (h₂ : ℓ₂.isSome = b) : (ℓ₁.app ℓ₂).isSome = b := by
  cases ℓ₁ <;> cases ℓ₂ <;> simp_all [Log.app]

theorem LogOK.comp {ℓ₁ ℓ₂ : Log} {h h₁ h₂ : HS} (k₁ : LogOK ℓ₁ h h₁) (k₂ : LogOK ℓ₂ h₁ h₂) : LogOK (ℓ₁.app ℓ₂) h h₂ := by
  refine ⟨Nat.le_trans k₁.1 k₂.1, ?_⟩
  cases ℓ₁ with
  | none => cases ℓ₂ <;> trivial
  | some x => cases ℓ₂ with
    | none => trivial
    | some y =>
      obtain ⟨t, u⟩ := x
      obtain ⟨t', u'⟩ := y
      intro id hn hf
      have m1 := k₁.1
      have m2 := k₂.1
      simp only [List.mem_append, not_or] at hn
      rw [k₂.2 id hn.2 (by omega), k₁.2 id hn.1 (by omega)]

theorem Upd.comp {ℓ₁ ℓ₂ : Log} {h h₁ h₂ : HS} {G : AMap} {b : Bool} (e₁ : ℓ₁.isSome = b) (e₂ : ℓ₂.isSome = b) (k₁ : LogOK ℓ₁ h h₁) (k₂ : LogOK ℓ₂ h₁ h₂) :
    Upd ℓ₂ h₁ h₂ (Upd ℓ₁ h h₁ G) = Upd (ℓ₁.app ℓ₂) h h₂ G := by
  funext id
  cases ℓ₁ with
  | none => cases ℓ₂ with
    | none => rfl
    | some x => simp_all
  | some x =>
    cases ℓ₂ with
    | none => simp_all
    | some y =>
      obtain ⟨t, u⟩ := x
      obtain ⟨t', u'⟩ := y
      have m1 := k₁.1
      have m2 := k₂.1
      simp only [Upd, Log.app, List.mem_append]
      by_cases a : id ∈ u' ∨ (h₁.next ≤ id ∧ id < h₂.next)
      · rw [if_pos a, if_pos]
        rcases a with a | a
        · exact .inl (.inr a)
        · exact .inr ⟨by omega, a.2⟩
      · rw [if_neg a]
        have a1 : id ∉ u' := fun e => a (.inl e)
        by_cases c : id ∈ u ∨ (h.next ≤ id ∧ id < h₁.next)
        · rw [if_pos c, if_pos]
          · exact (k₂.2 id a1 (fun q => a (.inr q))).symm
          · rcases c with c | c
            · exact .inl (.inl c)
            · exact .inr ⟨c.1, by omega⟩
        · rw [if_neg c, if_neg]
          rintro (d | d)
          · rcases d with d | d
            · exact c (.inl d)
            · exact a1 d
          · rcases Nat.lt_or_ge id h₁.next with q | q
            · exact c (.inr ⟨d.1, q⟩)
            · exact a (.inr ⟨q, d.2⟩)

theorem Agree.left {ℓ₁ ℓ₂ : Log} {h : HS} {G : AMap} {b : Bool} (e₁ : ℓ₁.isSome = b) (e₂ : ℓ₂.isSome = b) (h₁ : Agree (ℓ₁.app ℓ₂) h G) : Agree ℓ₁ h G := by
  cases ℓ₁ with
  | none => cases ℓ₂ with
    | none => exact h₁
    | some x => simp_all
  | some x =>
    cases ℓ₂ with
    | none => simp_all
    | some y => exact fun id hm hn => h₁ id (List.mem_append.2 (.inl hm)) hn

theorem Agree.right {ℓ₁ ℓ₂ : Log} {h h₁ : HS} {G : AMap} {b : Bool} (e₁ : ℓ₁.isSome = b) (e₂ : ℓ₂.isSome = b) (k₁ : LogOK ℓ₁ h h₁) (ha : Agree (ℓ₁.app ℓ₂) h G) : Agree ℓ₂ h₁ (Upd ℓ₁ h h₁ G) := by
  cases ℓ₁ with
  | none => cases ℓ₂ with
    | none => exact fun _ => rfl
    | some x => simp_all
  | some x =>
    cases ℓ₂ with
    | none => simp_all
    | some y =>
      obtain ⟨t, u⟩ := x
      obtain ⟨t', u'⟩ := y
      intro id hm hn
      simp only [Upd]
      by_cases c : id ∈ u ∨ (h.next ≤ id ∧ id < h₁.next)
      · rw [if_pos c]
      · rw [if_neg c]
        have hlt : id < h.next := by
          rcases Nat.lt_or_ge id h.next with q | q
          · exact q
          · exact absurd (.inr ⟨q, hn⟩) c
        rw [ha id (List.mem_append.2 (.inr hm)) hlt]
        exact (k₁.2 id (fun e => c (.inl e)) (fun e => c (.inr e))).symm

theorem Fresh.left {φ : Phi} {G : AMap} {h h₁ h₂ : HS} (m : h₁.next ≤ h₂.next) (hf : Fresh φ G h h₂) : Fresh φ G h h₁ := fun id a b => hf id a (Nat.lt_of_lt_of_le b m)

/-- Nothing lies beyond. -/
def WF (h : HS) : Prop := ∀ id, h.next ≤ id → h.m.get id = none

/-- What a step comes to. -/
structure Post (P : Program) (nG : Nat) (ℓ : Log) (h h' : HS) (φ : Phi) (G : AMap) (w : World) (ψ : Phi) (w' : World) : Prop where
  le : Le φ ψ
  only : ∀ id L, ψ id = some L → φ id = none → h.next ≤ id ∧ id < h'.next
  rel : Rel P nG ψ (Upd ℓ h h' G) w'
  kept : ∀ b, b < w.heap.size → (∀ id o L, G id = some o → φ id = some L → L.blk ≠ b) → w'.heap[b]? = w.heap[b]?
  orig : ∀ id o L, Upd ℓ h h' G id = some o → ψ id = some L → L.blk < w.heap.size → ∃ id₀ o₀ L₀, G id₀ = some o₀ ∧ φ id₀ = some L₀ ∧ L₀.blk = L.blk
  size : w.heap.size ≤ w'.heap.size
  tape : w'.tape = w.tape
  os : w'.os = w.os
  out : w'.output = w.output
  log : LogOK ℓ h h'
  wf : WF h → WF h'

theorem Fresh.right {P : Program} {nG : Nat} {ℓ : Log} {h h₁ h₂ : HS} {φ ψ : Phi} {G : AMap} {w w' : World} (p : Post P nG ℓ h h₁ φ G w ψ w') (hm : WF h₁) (hf : Fresh φ G h h₂) : Fresh ψ (Upd ℓ h h₁ G) h₁ h₂ := by
  intro id ha hb
  have := p.log.1
  obtain ⟨h1, h2⟩ := hf id (by omega) hb
  refine ⟨?_, ?_⟩
  · cases e : ψ id with
    | none => rfl
    | some L => have := p.only id L e h1; omega
  · cases ℓ with
    | none => exact hm id ha
    | some x =>
      obtain ⟨t, u⟩ := x
      simp only [Upd]
      by_cases c : id ∈ u ∨ (h.next ≤ id ∧ id < h₁.next)
      · rw [if_pos c]; exact hm id ha
      · rw [if_neg c]; exact h2

theorem Post.trans {P : Program} {nG : Nat} {ℓ₁ ℓ₂ : Log} {h h₁ h₂ : HS} {φ ψ χ : Phi} {G : AMap} {w w₁ w₂ : World} {b : Bool} (e₁ : ℓ₁.isSome = b) (e₂ : ℓ₂.isSome = b)
    (p : Post P nG ℓ₁ h h₁ φ G w ψ w₁) (q : Post P nG ℓ₂ h₁ h₂ ψ (Upd ℓ₁ h h₁ G) w₁ χ w₂) : Post P nG (ℓ₁.app ℓ₂) h h₂ φ G w χ w₂ := by
  have hU := Upd.comp (G := G) e₁ e₂ p.log q.log
  refine ⟨p.le.trans q.le, ?_, hU ▸ q.rel, ?_, ?_, Nat.le_trans p.size q.size, q.tape.trans p.tape, q.os.trans p.os, q.out.trans p.out, p.log.comp q.log, q.wf ∘ p.wf⟩
  · intro id L hc hn
    have m1 := p.log.1
    have m2 := q.log.1
    cases e : ψ id with
    | none => have := q.only id L hc e; omega
    | some M => have := p.only id M e hn; omega
  · intro k hk hno
    rw [q.kept k (Nat.lt_of_lt_of_le hk p.size) ?_, p.kept k hk hno]
    intro id o L hG hψ he
    obtain ⟨id₀, o₀, L₀, a1, a2, a3⟩ := p.orig id o L hG hψ (he ▸ hk)
    exact hno id₀ o₀ L₀ a1 a2 (a3.trans he)
  · intro id o L hG hχ hlt
    rw [← hU] at hG
    obtain ⟨id₁, o₁, L₁, a1, a2, a3⟩ := q.orig id o L hG hχ (Nat.lt_of_lt_of_le hlt p.size)
    obtain ⟨id₀, o₀, L₀, b1, b2, b3⟩ := p.orig id₁ o₁ L₁ a1 a2 (a3 ▸ hlt)
    exact ⟨id₀, o₀, L₀, b1, b2, b3.trans a3⟩

end
end Go.Proofs.YthiaocbikmiciaaGreatDoor.H
