/- The machine that is run by the kernel, part 5: no claim of its own. -/
import Derived.Test.YthiaocbikmiciaaGreatDoorH4
import Derived.RangeFuncRecord
namespace Go.Proofs.YthiaocbikmiciaaGreatDoor.H
section
variable {P : Program} {cs : List Frame} {w : World} {fr : Frame} {k : List Item}

/-! ### One step of a frame, whatever frame it is -/

theorem st_drop {x : Item} (hm : fr.mode = .run) (ht : fr.todo = x :: k) (hx : (match x with | .code .skip => true | .code (.label _) => true | .inBlock _ => true | .inScope _ => true | _ => false) = true) :
    step P (lone fr cs w) = .next (lone { fr with todo := k } cs w) :=
  step_lone_go (by
    cases x with
    | code c => cases c <;> simp at hx <;> simp [stepG, stepG.exec, hm, ht]
    | inBlock => simp [stepG, stepG.exec, hm, ht]
    | inScope => simp [stepG, stepG.exec, hm, ht]
    | _ => simp at hx)

theorem st_seq {a b : Code} (hm : fr.mode = .run) (ht : fr.todo = .code (.seq a b) :: k) : step P (lone fr cs w) = .next (lone { fr with todo := .code a :: .code b :: k } cs w) :=
  step_lone_go (by simp [stepG, stepG.exec, hm, ht])

theorem st_cond {c : Operand} {a b : Code} {t : Bool} (hm : fr.mode = .run) (ht : fr.todo = .code (.cond c a b) :: k) (hc : fr.eval c = .bool t) :
    step P (lone fr cs w) = .next (lone { fr with todo := .code (if t then a else b) :: k } cs w) :=
  step_lone_go (by simp [stepG, stepG.exec, hm, ht, hc])

theorem st_block {id : Nat} {c : Code} (hm : fr.mode = .run) (ht : fr.todo = .code (.block id c) :: k) : step P (lone fr cs w) = .next (lone { fr with todo := .code c :: .inBlock id :: k } cs w) :=
  step_lone_go (by simp [stepG, stepG.exec, hm, ht])

theorem st_loop {c : Code} (hm : fr.mode = .run) (ht : fr.todo = .code (.loop c) :: k) : step P (lone fr cs w) = .next (lone { fr with todo := .code c :: .inLoop c :: k } cs w) :=
  step_lone_go (by simp [stepG, stepG.exec, hm, ht])

theorem st_inLoop {c : Code} (hm : fr.mode = .run) (ht : fr.todo = .inLoop c :: k) : step P (lone fr cs w) = .next (lone { fr with todo := .code c :: .inLoop c :: k } cs w) :=
  step_lone_go (by simp [stepG, stepG.exec, hm, ht])

theorem st_scope {c : Code} (hm : fr.mode = .run) (ht : fr.todo = .code (.scope c) :: k) : step P (lone fr cs w) = .next (lone { fr with todo := .code c :: .inScope c :: k } cs w) :=
  step_lone_go (by simp [stepG, stepG.exec, hm, ht])

theorem st_exit {id : Nat} {k' : List Item} (hm : fr.mode = .run) (ht : fr.todo = .code (.exit id) :: k) (he : exitTo id k = some k') : step P (lone fr cs w) = .next (lone { fr with todo := k' } cs w) :=
  step_lone_go (by simp [stepG, stepG.exec, hm, ht, he])

theorem st_region {id : Nat} {ops : Array Oper} (hm : fr.mode = .run) (ht : fr.todo = .code (.region id ops false) :: k) :
    step P (lone fr cs w) = .next (lone { fr with todo := .inRegion ops (List.range ops.size) :: k } cs w) :=
  step_lone_go (by simp [stepG, stepG.exec, hm, ht])

theorem st_region_draw {id : Nat} {ops : Array Oper} (hm : fr.mode = .run) (ht : fr.todo = .code (.region id ops true) :: k) :
    step P (lone fr cs w) = .next (lone { fr with todo := .inRegion ops (Region.schedule (P.follows .mixedOrders) ops (w.tape w.drawn (.order fr.fn id))) :: k } cs { w with drawn := w.drawn + 1 }) :=
  step_lone_go (by simp [stepG, stepG.exec, hm, ht, choose, Sem.run, Question.forced, Question.cut])

theorem st_region_end {ops : Array Oper} (hm : fr.mode = .run) (ht : fr.todo = .inRegion ops [] :: k) : step P (lone fr cs w) = .next (lone { fr with todo := k } cs w) :=
  step_lone_go (by simp [stepG, stepG.exec, hm, ht])

/-- The frame behind an operation. -/
def Frame.put (fr : Frame) (o : Oper) (v : Value) (ops : Array Oper) (rest : List Nat) (k : List Item) : Frame :=
  { fr with tmps := o.dst.elim fr.tmps (fun d => fr.tmps.setIfInBounds d v), todo := .inRegion ops rest :: k }

theorem finish_put {ops : Array Oper} {i : Nat} {rest : List Nat} {o : Oper} (ht : fr.todo = .inRegion ops (i :: rest) :: k) (ho : ops[i]? = some o) (v : Value) : fr.finish v = Frame.put fr o v ops rest k := by
  simp only [Frame.finish, ht, ho, Option.bind_some, Frame.put]
  cases o.dst <;> rfl

theorem st_skip {ops : Array Oper} {i : Nat} {rest : List Nat} {o : Oper} (hm : fr.mode = .run) (ht : fr.todo = .inRegion ops (i :: rest) :: k) (ho : ops[i]? = some o) (hw : Region.wanted o (yielded ops fr.tmps) = false) :
    step P (lone fr cs w) = .next (lone (Frame.put fr o undef ops rest k) cs w) :=
  step_lone_go (by rw [← finish_put ht ho]; simp [stepG, stepG.exec, hm, ht, ho, hw])

def notDefer : Op → Bool
  | .defer _ => false
  | _ => true

theorem oper_go {ops : Array Oper} {i : Nat} {rest : List Nat} {o : Oper} (hm : fr.mode = .run) (ht : fr.todo = .inRegion ops (i :: rest) :: k) (ho : ops[i]? = some o) (hw : Region.wanted o (yielded ops fr.tmps) = true) (hd : notDefer o.op = true) :
    stepG P true { frame := fr, callers := cs, status := .running, dying := none } w = stepG.apply P true fr cs none (execOp fr.eval o) w := by
  have hop : fr.oper? = some o := by simp [Frame.oper?, ht, ho]
  cases hr : fr.roundOf with
  | none => simp [stepG, stepG.exec, stepG.oper, hm, ht, ho, hw, hop, hr]
  | some l =>
    cases hop' : o.op with
    | defer c => simp [hop', notDefer] at hd
    | _ => simp [stepG, stepG.exec, stepG.oper, hm, ht, ho, hw, hop, hr, hop']

theorem st_value {ops : Array Oper} {i : Nat} {rest : List Nat} {o : Oper} {v : Value} {w' : World} (hm : fr.mode = .run) (ht : fr.todo = .inRegion ops (i :: rest) :: k) (ho : ops[i]? = some o) (hw : Region.wanted o (yielded ops fr.tmps) = true) (hd : notDefer o.op = true)
    (hr : (execOp fr.eval o).run P w = .ok (.value v) w') : step P (lone fr cs w) = .next (lone (Frame.put fr o v ops rest k) cs w') :=
  step_lone_go (by rw [oper_go hm ht ho hw hd, ← finish_put ht ho]; simp [stepG.apply, hr])

theorem st_skipped {ops : Array Oper} {i : Nat} {rest : List Nat} {o : Oper} {w' : World} (hm : fr.mode = .run) (ht : fr.todo = .inRegion ops (i :: rest) :: k) (ho : ops[i]? = some o) (hw : Region.wanted o (yielded ops fr.tmps) = true) (hd : notDefer o.op = true)
    (hr : (execOp fr.eval o).run P w = .ok .skip w') : step P (lone fr cs w) = .next (lone (Frame.put fr o undef ops rest k) cs w') :=
  step_lone_go (by rw [oper_go hm ht ho hw hd, ← finish_put ht ho]; simp [stepG.apply, hr])

theorem st_enter {ops : Array Oper} {i : Nat} {rest : List Nat} {o : Oper} {f : FuncId} {args : Array Value} {w' : World} (hm : fr.mode = .run) (ht : fr.todo = .inRegion ops (i :: rest) :: k) (ho : ops[i]? = some o) (hw : Region.wanted o (yielded ops fr.tmps) = true) (hd : notDefer o.op = true)
    (hr : (execOp fr.eval o).run P w = .ok (.enter f args) w') : step P (lone fr cs w) = .next (lone (Frame.enter P f args .normal) (fr :: cs) w') :=
  step_lone_go (by rw [oper_go hm ht ho hw hd]; simp [stepG.apply, hr, ht])

theorem st_round {ops : Array Oper} {i : Nat} {rest : List Nat} {o : Oper} {l : Nat} {f : FuncId} {tmps : Array Value} {assign body : Code} {w' : World} (hm : fr.mode = .run) (ht : fr.todo = .inRegion ops (i :: rest) :: k) (ho : ops[i]? = some o) (hw : Region.wanted o (yielded ops fr.tmps) = true) (hd : notDefer o.op = true)
    (hr : (execOp fr.eval o).run P w = .ok (.round l f tmps assign body) w') : step P (lone fr cs w) = .next (lone (Frame.round l f tmps assign body .normal) (fr :: cs) w') :=
  step_lone_go (by rw [oper_go hm ht ho hw hd]; simp [stepG.apply, hr])

/-- A frame that has returned, with its caller. -/
theorem st_return {c : Frame} {v : Value} {w' : World} {fn : Func} (hm : fr.mode = .returning) (hd : fr.defers = []) (hk : fr.kind = .normal) (hf : P.funcs[fr.fn]? = some fn) (hr : (results fn fr.tmps).run P w = .ok v w') :
    step P (lone fr (c :: cs) w) = .next (lone (c.finish v) cs w') :=
  step_lone_go (by simp [stepG, unwind, doReturn, hm, hd, hk, hf, hr])

theorem st_ret (hm : fr.mode = .run) (ht : fr.todo = .code .ret :: k) (hr : fr.roundOf = none) : step P (lone fr cs w) = .next (lone { fr with mode := .returning } cs w) :=
  step_lone_go (by simp [stepG, stepG.exec, hm, ht, hr])
theorem st_end (hm : fr.mode = .run) (ht : fr.todo = []) (hr : fr.roundOf = none) : step P (lone fr cs w) = .next (lone { fr with mode := .returning } cs w) :=
  step_lone_go (by simp [stepG, stepG.exec, hm, ht, hr])

/-- The end of a round. -/
theorem st_endRound {jump : Option Code} {l : Nat} {c : Frame} {v : Value} {w' : World} {ct : List Item} (hm : fr.mode = .run) (ht : fr.todo = ct) (hr : fr.roundOf = some l) (hk : fr.kind = .normal)
    (hj : (ct = [] ∧ jump = none) ∨ (∃ k, ct = .code .ret :: k ∧ jump = some .ret) ∨ (∃ k id, ct = .code (.exit id) :: k ∧ exitTo id k = none ∧ jump = some (.exit id)))
    (he : (Instr.endRound l jump).run P w = .ok v w') : step P (lone fr (c :: cs) w) = .next (lone (c.finish v) cs w') :=
  step_lone_go (by
    subst ht
    rcases hj with ⟨h1, rfl⟩ | ⟨k, h1, rfl⟩ | ⟨k, id, h1, h2, rfl⟩
    · simp [stepG, stepG.exec, hm, h1, hr, he, doReturn, hk]
    · simp [stepG, stepG.exec, hm, h1, hr, he, doReturn, hk]
    · simp [stepG, stepG.exec, hm, h1, h2, hr, he, doReturn, hk])

theorem st_beginRound {l : Nat} {w' : World} (hm : fr.mode = .run) (ht : fr.todo = .beginRound :: k) (hr : fr.roundOf = some l) (he : (Instr.beginRound l).run P w = .ok () w') :
    step P (lone fr cs w) = .next (lone { fr with todo := k } cs w') :=
  step_lone_go (by simp [stepG, stepG.exec, stepG.apply, hm, ht, hr, he, Frame.finish])

theorem st_rangeFunc {f : Operand} {ps : Array Tmp} {assign body : Code} {l : Nat} {mark : List Deferred} {w₁ w₂ : World} {g : FuncId} {first cap args : Array Value} (hm : fr.mode = .run) (ht : fr.todo = .code (.rangeFunc f ps assign body) :: k)
    (he : (Instr.enterLoop fr.fn fr.tmps ps assign body fr.roundOf).run P w = .ok (l, mark) w₁)
    (hc : (do let d ← resolve ({ fr with todo := .inRangeFunc l :: k, defers := mark ++ fr.defers } : Frame).eval { callee := .value f, args := #[.const (.func (.yield l) #[] #[])], argTypes := #[] } 0; invoke d.target d.args : Sem Next).run P w₁ = .ok (.enter g args) w₂) :
    step P (lone fr cs w) = .next (lone (Frame.enter P g args .normal) ({ fr with todo := .inRangeFunc l :: k, defers := mark ++ fr.defers } :: cs) w₂) :=
  step_lone_go (by
    simp only [Sem.run_bind, hm] at hc
    simp only [stepG, stepG.exec, hm, ht]
    simp [he, stepG.apply, hc])

theorem st_endRangeFunc {l : Nat} {jump : Option Code} {w' : World} (hm : fr.mode = .run) (ht : fr.todo = .endRangeFunc l :: k) (he : (Instr.endLoop l).run P w = .ok jump w') :
    step P (lone fr cs w) = .next (lone { fr with todo := (jump.map Item.code).toList ++ k } cs w') :=
  step_lone_go (by simp [stepG, stepG.exec, hm, ht, he])

/-- A mark among the deferred calls. -/
theorem st_collected {b : Nat} {args : Array Value} {ds calls : List Deferred} {w' : World} (hm : fr.mode = .returning) (hd : fr.defers = { target := .collected b, args } :: ds) (he : (Instr.takeDeferred b).run P w = .ok calls w') :
    step P (lone fr cs w) = .next (lone { fr with defers := calls ++ ds } cs w') :=
  step_lone_go (by simp [stepG, unwind, hm, hd, he])

end
end Go.Proofs.YthiaocbikmiciaaGreatDoor.H
namespace Go.Proofs.YthiaocbikmiciaaGreatDoor.H
section

/-- An abstract frame. -/
structure Fr where
  tmps : Tr Value
  n : Nat
  fn : FuncId
  round : Option Nat
  defers : List Deferred

def Fr.eval (F : Fr) : Operand → Value
  | .tmp t => (F.tmps.get t).getD undef
  | .const v => v
  | .global g => .pointer (some ⟨g, 0, none⟩)
  | .func f => .func (.func f) #[] #[]

def Fr.put (F : Fr) (dst : Option Tmp) (v : Value) : Option Fr :=
  match dst with
  | none => some F
  | some d => bif Nat.blt d F.n && Nat.blt d keyMax then some { F with tmps := F.tmps.put d (some v) } else none

/-- Is the operation's guard met? -/
def Fr.wanted (F : Fr) (ops : Array Oper) (o : Oper) : Bool :=
  match o.guard with
  | none => true
  | some (j, want) =>
    match (ops[j]?).bind (·.dst) with
    | some d => match (F.tmps.get d).getD undef with
      | .bool b => bif Nat.blt d F.n then b == want else false
      | _ => false
    | none => false

inductive HX where
  | normal
  | exit (id : Nat)
  | ret

/-- May a function be entered? -/
def enterOK (P : Program) (g : FuncId) : Bool :=
  match P.funcs[g]? with
  | some fn => !(fn.name == "runtime.NumGoroutine") && fn.body.isSome
  | none => false

def hcall (P : Program) (trk : Bool) (ρ : Operand → Value) (o : Oper) (c : Call) (h : HS) : R HNext :=
  match c.callee with
  | .builtin .len => match c.args.toList, c.argTypes[0]? with
    | [x], some t => hlen P trk t (ρ x) h
    | _, _ => none
  | .builtin .append => match c.args.toList with
    | [s, x] => happend P trk c.argTypes (ρ s) (ρ x) h
    | _ => none
  | .builtin _ => hflat P trk ρ o h
  | .value f => match ρ f with
    | .func (.func g) first cap => bif enterOK P g then some (.enter g (first ++ c.args.map ρ ++ cap), h, Log.nil trk) else none
    | .func (.yield l) first _ =>
      match h.m.get l with
      | some (.loop r) =>
        bif first.isEmpty && c.args.size.beq r.params.size && r.params.toList.all (fun t => Nat.blt t r.ntmps && Nat.blt t keyMax) then
          some (.round l r.ntmps ((r.params.toList.zip (c.args.toList.map ρ)).foldl (fun t p => t.put p.1 (some p.2)) r.tmps) r.fn r.assign r.body, h, Log.rd trk [l])
        else none
      | _ => none
    | _ => none
  | _ => none

def optS {α : Type} (x : Option α) : List α := x.toList

def hop (P : Program) (trk : Bool) (ρ : Operand → Value) (o : Oper) (h : HS) : R HNext :=
  match o.op with
  | .move x => ret trk h (ρ x)
  | .assign x => ret trk h (ρ x)
  | .pick c a b => hpick trk h (ρ c) (ρ a) (ρ b)
  | .alloc e => match zeroO P e with
    | some z => hnew trk h (.cells z.cells.toList e false) fun id => .pointer (some ⟨id, 0, none⟩)
    | none => none
  | .box e x => hnew trk h (.cells (ρ x).cells.toList e false) fun id => .pointer (some ⟨id, 0, none⟩)
  | .build t ps => retO trk h (hbuild P t (ps.map fun (i, x) => (i, ρ x)).toList)
  | .buildSlice t n ps => hbuildSlice P trk t n (ps.map fun (i, x) => (i, ρ x)).toList h
  | .load t a => hload P trk t (ρ a) h
  | .store t a v => hstore P trk t (ρ a) (ρ v) h
  | .nilCheck x => retO trk h (hnilCheck (ρ x))
  | .binOp op t x y _ => match hcmpNil P op t (ρ x) (ρ y) with
    | some v => ret trk h v
    | none => hflat P trk ρ o h
  | .makeInterface t x => match P.underlying t with
    | some (.interface _) => none
    | some _ => ret trk h (.iface t (ρ x))
    | none => none
  | .makeFunc f a b => bif okFn f then ret trk h (.func f (a.map ρ) (b.map ρ)) else none
  | .makeMap _ none => hnew trk h (.map [] 0) fun id => .map (some id)
  | .insert t m k v => hmapUpdate P trk t (ρ m) (ρ k) (ρ v) h
  | .mapUpdate t m k v => hmapUpdate P trk t (ρ m) (ρ k) (ρ v) h
  | .lookup t m k ok => hlookup P trk t (ρ m) (ρ k) ok h
  | .makeSlice t l c => hmakeSlice P trk t (ρ l) (ρ c) h
  | .slice t x lo hi mx => hslice P trk t (ρ x) (lo.map ρ) (hi.map ρ) (mx.map ρ) h
  | .fieldAddr t x f => retO trk h (hfieldAddr P t (ρ x) f)
  | .field t x f => retO trk h (hfield P t (ρ x) f)
  | .indexAddr t x i => retO trk h (hindexAddr P t (ρ x) (ρ i))
  | .index t x i => match hindex P t (ρ x) (ρ i) with
    | some v => ret trk h v
    | none => hflat P trk ρ o h
  | .extract x i => retO trk h (hextract (ρ x) i)
  | .call c => hcall P trk ρ o c h
  | .unOp _ _ _ => hflat P trk ρ o h
  | .convert _ _ _ => hflat P trk ρ o h
  | _ => none

/-- What an operation of a region that draws its order did: where it stands, the numbers of the blocks that it made, what it touched, what it wrote. -/
structure Rec where
  lo : Nat
  hi : Nat
  t : List Nat
  w : List Nat

def inR (r : Rec) (id : Nat) : Bool := Nat.ble r.lo id && Nat.blt id r.hi
def memN (l : List Nat) (id : Nat) : Bool := l.any (Nat.beq id)
/-- Two operations that meddle in nothing of each other's; the first one stands ahead. -/
def apartR (a b : Rec) : Bool :=
  a.w.all (fun id => !memN b.t id) && b.w.all (fun id => !memN a.t id) && b.t.all (fun id => !inR a id)
/-- What a record owes by itself. -/
def soundR (r : Rec) : Bool := r.w.all (memN r.t) && r.t.all (fun id => Nat.blt id r.hi)

/-- Of a region: of every two operations that may change places, do the temporaries allow it? -/
def apartT (ops : Array Oper) : Bool :=
  let b := Region.before ops
  ops.toList.zipIdx.all (fun p => p.1.after.toList.all fun e => !Region.binds .any e || Nat.blt e.on p.2) &&
  (List.range ops.size).all fun j => (List.range j).all fun i =>
    (b.getD j 0).testBit i || (match ops[i]?, ops[j]? with | some x, some y => x.apart ops y | _, _ => true)

def indep (ops : Array Oper) (rs : List Rec) : Bool :=
  let b := Region.before ops
  (List.range ops.size).all fun j => (List.range j).all fun i =>
    (b.getD j 0).testBit i || (match rs[i]?, rs[j]? with | some x, some y => apartR x y | _, _ => true)

/-- The tasks of the abstract machine. -/
inductive Tk where
  | code (c : Code) (F : Fr)
  | ops (l : List Oper) (all : Array Oper) (F : Fr)
  | op (o : Oper) (F : Fr)
  | drw (l : List Oper) (all : Array Oper) (F : Fr) (acc : List Rec)
  | call (f : FuncId) (args : Array Value)
  | round (id : Nat) (F : Fr) (assign body : Code)

inductive Rs where
  | code (x : HX) (F : Fr)
  | val (v : Value)
  | recs (l : List Rec) (F : Fr)

abbrev Res := Option (Rs × HS × Log)

/-- Functions that are taken by a contract. -/
abbrev Prims := FuncId → Option (Bool → HS → Array Value → Option (Value × HS × Log))

def initT : List Value → Nat → Tr Value → Tr Value
  | [], _, t => t
  | v :: vs, i, t => initT vs (i + 1) (t.put i (some v))

/-- What a function's results are. -/
def hresults (P : Program) (trk : Bool) (F : Fr) (h : HS) : List ResultVar → Option (List Value × Log)
  | [] => some ([], Log.nil trk)
  | .tmp t :: rest => (hresults P trk F h rest).map fun p => ((F.tmps.get t).getD undef :: p.1, p.2)
  | .cell a t :: rest =>
    match hload P trk t ((F.tmps.get a).getD undef) h, hresults P trk F h rest with
    | some (.val v, _, l1), some (vs, l2) => some (v :: vs, l1.app l2)
    | _, _ => none

def one : List Value → Value
  | [v] => v
  | vs => .tuple vs.toArray

def pre (l : Log) (r : Res) : Res := r.map fun x => (x.1, x.2.1, l.app x.2.2)

/-! Loops over functions -/
def hloop (h : HS) (l : Nat) : Option ALoop := match h.m.get l with | some (.loop r) => some r | _ => none
def hset (trk : Bool) (h : HS) (l : Nat) (o : AObj) : Option (HS × Log) := bif Nat.blt l keyMax then some (h.turn l (some o), Log.wr trk [l]) else none
def aloop (F : Fr) (ps : Array Tmp) (a b : Code) (d : Nat) : AObj := .loop { state := .ready, pending := none, tmps := F.tmps, ntmps := F.n, fn := F.fn, params := ps, assign := a, body := b, dfr := d }
/-- A loop over a function begins. -/
def henter (trk : Bool) (F : Fr) (ps : Array Tmp) (a b : Code) (h : HS) : Option (Nat × List Deferred × HS × Log) :=
  match F.round with
  | none => bif Nat.blt (h.next + 1) keyMax then some (h.next + 1, [{ target := .collected h.next, args := #[] }], (h.push (.deferred (some []))).push (aloop F ps a b h.next), Log.nil trk) else none
  | some l =>
    match hloop h l with
    | some r => bif Nat.blt h.next keyMax then some (h.next, [], h.push (aloop F ps a b r.dfr), Log.rd trk [l]) else none
    | none => none
def hbegin (trk : Bool) (h : HS) (l : Nat) : Option (HS × Log) :=
  match hloop h l with
  | some r => match r.state with
    | .ready => hset trk h l (.loop { r with state := .busy })
    | _ => none
  | none => none
def jumpOf : HX → Option Code
  | .normal => none
  | .exit i => some (.exit i)
  | .ret => some .ret
def hend (trk : Bool) (h : HS) (l : Nat) (j : Option Code) : Option (HS × Log) :=
  match hloop h l with
  | some r => hset trk h l (.loop { r with state := if j.isNone then .ready else .done, pending := j })
  | none => none
def backOf : Option Code → Option HX
  | none => some .normal
  | some .ret => some .ret
  | some (.exit i) => some (.exit i)
  | _ => none
def isBusy : LoopState → Bool | .busy => true | _ => false
def hendLoop (trk : Bool) (h : HS) (l : Nat) : Option (HX × HS × Log) :=
  match hloop h l with
  | some r => bif isBusy r.state then none else
    match backOf r.pending, hset trk h l (.loop { r with state := .exhausted }) with
    | some x, some (h1, l1) => some (x, h1, l1)
    | _, _ => none
  | none => none
/-- What loops have deferred: nothing. -/
def hcollect (trk : Bool) (h : HS) : List Deferred → Option (HS × Log)
  | [] => some (h, Log.nil trk)
  | d :: ds => match d.target with
    | .collected b => match h.m.get b with
      | some (.deferred (some [])) => match hset trk h b (.deferred none) with
        | some (h1, l1) => match hcollect trk h1 ds with
          | some (h2, l2) => some (h2, l1.app l2)
          | none => none
        | none => none
      | _ => none
    | _ => none

section
variable (P : Program) (nG : Nat) (prim : Prims)

def hx : Nat → Bool → Tk → HS → Res
  | 0, _, _, _ => none
  | n + 1, trk, tk, h =>
    match tk with
    | .op o F =>
      match hop P trk F.eval o h with
      | some (.val v, h1, l1) => some (.val v, h1, l1)
      | some (.enter f args, h1, l1) => pre l1 (hx n trk (.call f args) h1)
      | some (.round id m tmps fn a b, h1, l1) => pre l1 (hx n trk (.round id { tmps := tmps, n := m, fn := fn, round := some id, defers := [] } a b) h1)
      | none => none
    | .ops [] _ F => some (.code .normal F, h, Log.nil trk)
    | .ops (o :: rest) all F =>
      bif F.wanted all o then
        match hx n trk (.op o F) h with
        | some (.val v, h1, l1) => match F.put o.dst v with
          | some F1 => pre l1 (hx n trk (.ops rest all F1) h1)
          | none => none
        | _ => none
      else match F.put o.dst undef with
        | some F1 => hx n trk (.ops rest all F1) h
        | none => none
    | .drw [] all F acc => bif indep all acc.reverse then some (.recs acc.reverse F, h, Log.nil trk) else none
    | .drw (o :: rest) all F acc =>
      bif F.wanted all o then
        match hx n true (.op o F) h with
        | some (.val v, h1, some (t, u)) => match F.put o.dst v with
          | some F1 => bif soundR ⟨h.next, h1.next, t, u⟩ then pre (bif trk then some (t, u) else none) (hx n trk (.drw rest all F1 (⟨h.next, h1.next, t, u⟩ :: acc)) h1) else none
          | none => none
        | _ => none
      else match F.put o.dst undef with
        | some F1 => pre (Log.nil trk) (hx n trk (.drw rest all F1 (⟨h.next, h.next, [], []⟩ :: acc)) h)
        | none => none
    | .code c F =>
      match c with
      | .skip => some (.code .normal F, h, Log.nil trk)
      | .label _ => some (.code .normal F, h, Log.nil trk)
      | .exit id => some (.code (.exit id) F, h, Log.nil trk)
      | .ret => some (.code .ret F, h, Log.nil trk)
      | .seq a b =>
        match hx n trk (.code a F) h with
        | some (.code .normal F1, h1, l1) => pre l1 (hx n trk (.code b F1) h1)
        | r => r
      | .cond c a b => match F.eval c with
        | .bool t => hx n trk (.code (bif t then a else b) F) h
        | _ => none
      | .block id c =>
        match hx n trk (.code c F) h with
        | some (.code (.exit i) F1, h1, l1) => some (.code (bif i.beq id then .normal else .exit i) F1, h1, l1)
        | r => r
      | .loop c =>
        match hx n trk (.code c F) h with
        | some (.code .normal F1, h1, l1) => pre l1 (hx n trk (.code (.loop c) F1) h1)
        | r => r
      | .scope c => hx n trk (.code c F) h
      | .region _ ops false => hx n trk (.ops ops.toList ops F) h
      | .region _ ops true =>
        bif apartT ops && noSelA ops then
          match hx n trk (.drw ops.toList ops F []) h with
          | some (.recs _ F1, h1, l1) => some (.code .normal F1, h1, l1)
          | _ => none
        else none
      | .rangeFunc f ps a b =>
        match F.eval f with
        | .func (.func g) first cap =>
          bif enterOK P g then
            match henter trk F ps a b h with
            | some (l, mark, h1, l1) =>
              match hx n trk (.call g (first ++ #[.func (.yield l) #[] #[]] ++ cap)) h1 with
              | some (.val _, h2, l2) =>
                match hendLoop trk h2 l with
                | some (x, h3, l3) => some (.code x { F with defers := mark ++ F.defers }, h3, (l1.app l2).app l3)
                | none => none
              | _ => none
            | none => none
          else none
        | _ => none
      | _ => none
    | .call f args =>
      match prim f with
      | some p => (p trk h args).map fun x => (.val x.1, x.2.1, x.2.2)
      | none =>
        match P.funcs[f]? with
        | none => none
        | some fn => match fn.body with
          | none => none
          | some c =>
            bif okC nG c && Nat.ble args.size fn.ntmps && Nat.blt fn.ntmps keyMax then
              match hx n trk (.code c { tmps := initT args.toList 0 .leaf, n := fn.ntmps, fn := f, round := none, defers := [] }) h with
              | some (.code x F1, h1, l1) =>
                match x with
                | .exit _ => none
                | _ => match hcollect trk h1 F1.defers with
                  | some (h2, l2) => match hresults P trk F1 h2 fn.results.toList with
                    | some (vs, l3) => some (.val (one vs), h2, (l1.app l2).app l3)
                    | none => none
                  | none => none
              | _ => none
            else none
    | .round id F a b =>
      match hx n trk (.code a { F with round := some id, defers := [] }) h with
      | some (.code .normal F1, h1, l1) =>
        match hbegin trk h1 id with
        | some (h2, l2) =>
          match hx n trk (.code b F1) h2 with
          | some (.code x _, h3, l3) =>
            match hend trk h3 id (jumpOf x) with
            | some (h4, l4) => some (.val (.bool (jumpOf x).isNone), h4, ((l1.app l2).app l3).app l4)
            | none => none
          | _ => none
        | none => none
      | _ => none
where
  noSelA (ops : Array Oper) : Bool := ops.toList.all (fun o => noSel o && notDefer o.op)
end

end
end Go.Proofs.YthiaocbikmiciaaGreatDoor.H
namespace Go.Proofs.YthiaocbikmiciaaGreatDoor.H
section
variable {P : Program} {nG : Nat} {trk : Bool} {h : HS} {φ : Phi} {G : AMap} {w : World}

theorem LR.map {ρ ρ' : Operand → Value} {l : List Operand} (hρ : ∀ x ∈ l, VR φ (ρ x) (ρ' x)) : LR φ (l.map ρ) (l.map ρ') := by
  induction l with
  | nil => exact LR.nil
  | cons x l ih => exact LR.cons (hρ x (by simp)) (ih fun y hy => hρ y (by simp [hy]))

theorem PR.map {ρ ρ' : Operand → Value} {ps : List (Nat × Operand)} (hρ : ∀ p ∈ ps, VR φ (ρ p.2) (ρ' p.2)) : PR φ (ps.map fun (i, x) => (i, ρ x)) (ps.map fun (i, x) => (i, ρ' x)) := by
  refine ⟨by simp [Function.comp_def], ?_⟩
  simp only [List.map_map]
  have := LR.map (φ := φ) (ρ := ρ) (ρ' := ρ') (l := ps.map (·.2)) (fun x hx => by
    obtain ⟨p, hp, rfl⟩ := List.mem_map.1 hx
    exact hρ p hp)
  simpa [Function.comp_def] using this

theorem XR.map {ρ ρ' : Operand → Value} {x : Option Operand} (hρ : ∀ y, x = some y → VR φ (ρ y) (ρ' y)) : XR φ (x.map ρ) (x.map ρ') := by
  cases x with
  | none => rfl
  | some y => exact ⟨ρ' y, rfl, hρ y rfl⟩

/-- A call of a Go function. -/
theorem snd_enter {g : FuncId} {args args' : Array Value} {s : Sem Next} (hl : LR φ args.toList args'.toList) (hs : enterOK P g = true → s = callFunc g args') :
    Snd P nG trk h φ G w (bif enterOK P g then some (.enter g args, h, Log.nil trk) else none) s := by
  cases he : enterOK P g with
  | false => exact snd_none
  | true =>
    have hs := hs he
    subst hs
    simp only [cond_true]
    rintro x h' ℓ e hwf r a hf
    simp only [Option.some.injEq, Prod.mk.injEq] at e
    obtain ⟨rfl, rfl, rfl⟩ := e
    rw [Log.nil_eq] at a ⊢
    refine ⟨Log.rd_isSome _ _, φ, .enter g args', w, ?_, Post.rd r a rfl rfl rfl rfl, ⟨args', rfl, hl⟩⟩
    unfold enterOK at he
    cases hf2 : P.funcs[g]? with
    | none => simp [hf2] at he
    | some fn =>
      simp only [hf2, Bool.and_eq_true, Bool.not_eq_true', beq_eq_false_iff_ne] at he
      have h2 : fn.body ≠ none := by
        have := he.2
        cases q : fn.body <;> simp_all
      simp [callFunc, hf2, he.1, h2]

theorem foldl_TR {n : Nat} : ∀ (ps : List Tmp) (vs vs' : List Value) (t : Tr Value) (a : Array Value), TR φ n t a → LR φ vs vs' → ps.all (fun t => Nat.blt t n && Nat.blt t keyMax) = true →
    TR φ n ((ps.zip vs).foldl (fun t p => t.put p.1 (some p.2)) t) ((ps.zip vs').foldl (fun tmps (p : Tmp × Value) => tmps.setIfInBounds p.1 p.2) a)
  | [], vs, vs', t, a, ht, _, _ => by simpa using ht
  | p :: ps, [], vs', t, a, ht, hl, _ => by
    have : vs' = [] := by have := hl.1; exact List.eq_nil_of_length_eq_zero (by simpa using this.symm)
    subst this
    simpa using ht
  | p :: ps, v :: vs, vs', t, a, ht, hl, hb => by
    cases vs' with
    | nil => have := hl.1; simp at this
    | cons v' vs' =>
      simp only [List.all_cons, Bool.and_eq_true] at hb
      obtain ⟨⟨b1, b2⟩, b3⟩ := hb
      have hv : VR φ v v' := hl.2 0 (by simp) (by simp)
      have hl' : LR φ vs vs' := ⟨by simpa using hl.1, fun i x y => by
        have := hl.2 (i + 1) (by simpa using x) (by simpa using y)
        simpa using this⟩
      simp only [List.zip_cons_cons, List.foldl_cons]
      exact foldl_TR ps vs vs' _ _ (ht.set (by simpa [Nat.blt_eq] using b1) (by simpa [Nat.blt_eq] using b2) hv) hl' b3

theorem VR.func_inv {f : Fn} {xs zs : Array Value} {v : Value} (h : VR φ (.func f xs zs) v) : ∃ g ys ws, v = .func g ys ws ∧ FnR φ f g ∧ LR φ xs.toList ys.toList ∧ LR φ zs.toList ws.toList := by
  cases h with
  | func h1 h2 h3 h4 h5 => exact ⟨_, _, _, rfl, h1, LR.of_array h2 h4, LR.of_array h3 h5⟩

theorem snd_call {ρ ρ' : Operand → Value} {o : Oper} {c : Call} (ho : o.op = .call c) (hρ : ∀ x ∈ o.op.operands, VR φ (ρ x) (ρ' x)) : Snd P nG trk h φ G w (hcall P trk ρ o c h) (execOp ρ' o) := by
  have hops : o.op.operands = (match c.callee with | .value f => #[f] | .invoke r _ => #[r] | .builtin _ => #[]) ++ c.args := by rw [ho]; rfl
  have hargs : ∀ x ∈ c.args.toList, VR φ (ρ x) (ρ' x) := fun x hx => hρ x (by rw [hops]; simp; right; simpa using hx)
  have hal : LR φ (c.args.map ρ).toList (c.args.map ρ').toList := by
    have := LR.map (φ := φ) hargs
    simpa using this
  have hex : execOp ρ' o = (do let d ← resolve ρ' c o.type; invoke d.target d.args) := by unfold execOp; rw [ho]
  unfold hcall
  cases hc : c.callee with
  | invoke r m => exact snd_none
  | builtin b =>
    cases b <;> try exact snd_flat hρ
    case len =>
      simp only
      cases ha : c.args.toList with
      | nil => exact snd_none
      | cons x l =>
        cases l with
        | cons y l => exact snd_none
        | nil =>
          cases ht : c.argTypes[0]? with
          | none => exact snd_none
          | some t =>
            simp only
            have : execOp ρ' o = valS (Builtin.len_ c.argTypes o.type #[ρ' x]) := by
              rw [hex]
              have hm : c.args.map ρ' = #[ρ' x] := by
                apply Array.ext'
                simp [ha]
              unfold resolve
              rw [hc]
              simp only [hm]
              rfl
            rw [this]
            exact snd_len (hargs x (by simp [ha])) ht
    case append =>
      simp only
      cases ha : c.args.toList with
      | nil => exact snd_none
      | cons x l =>
        cases l with
        | nil => exact snd_none
        | cons y l =>
          cases l with
          | cons z l => exact snd_none
          | nil =>
            simp only
            have : execOp ρ' o = valS (Builtin.append_ c.argTypes o.type #[ρ' x, ρ' y]) := by
              rw [hex]
              have hm : c.args.map ρ' = #[ρ' x, ρ' y] := by
                apply Array.ext'
                simp [ha]
              unfold resolve
              rw [hc]
              simp only [hm]
              rfl
            rw [this]
            exact snd_append (hargs x (by simp [ha])) (hargs y (by simp [ha]))
  | value f =>
    have hf : VR φ (ρ f) (ρ' f) := hρ f (by rw [hops, hc]; simp)
    simp only
    cases hfv : ρ f <;> try exact snd_none
    rename_i fn first cap
    rw [hfv] at hf
    obtain ⟨fn', first', cap', hv, h1, l1, l2⟩ := hf.func_inv
    cases fn <;> try exact snd_none
    case func g =>
      simp only [FnR] at h1
      subst h1
      simp only
      refine snd_enter (args' := first' ++ c.args.map ρ' ++ cap') ?_ fun _ => ?_
      · have := (l1.append hal).append l2
        simpa using this
      · rw [hex]
        unfold resolve
        rw [hc]
        simp only [hv, Deferred.ofValue]
        rfl
    case yield l =>
      obtain ⟨L, hL, rfl⟩ := h1
      simp only
      cases hg : h.m.get l with
      | none => exact snd_none
      | some ob =>
        cases ob <;> try exact snd_none
        rename_i r
        simp only
        cases hb : first.isEmpty && c.args.size.beq r.params.size && r.params.toList.all (fun t => Nat.blt t r.ntmps && Nat.blt t keyMax) with
        | false => exact snd_none
        | true =>
          simp only [cond_true]
          simp only [Bool.and_eq_true] at hb
          obtain ⟨⟨b1, b2⟩, b3⟩ := hb
          rintro x h' ℓ e hwf rr a hfr
          simp only [Option.some.injEq, Prod.mk.injEq] at e
          obtain ⟨rfl, rfl, rfl⟩ := e
          obtain ⟨M, ob, e1, e2, l', D, e3, e4, e5, e6, e7, e8, e9, e10, e11, e12, e13, e14⟩ := rr.live l _ (a.rd_get (by simp) hwf hg)
          rw [hL] at e1; cases e1
          subst e3
          have hfe : first' = #[] := by
            have := l1.1
            have b1' : first = #[] := by simpa using b1
            subst b1'
            have : first'.size = 0 := by simpa using this.symm
            simpa using this
          have hsz : c.args.size = r.params.size := Nat.eq_of_beq_eq_true b2
          have htr := foldl_TR r.params.toList (c.args.toList.map ρ) (c.args.toList.map ρ') r.tmps l'.tmps e7 (by simpa using hal) b3
          refine ⟨Log.rd_isSome _ _, φ, .round L.blk l'.fn ((r.params.toList.zip (c.args.toList.map ρ')).foldl (fun tmps (p : Tmp × Value) => tmps.setIfInBounds p.1 p.2) l'.tmps) l'.assign l'.body, w, ?_, Post.rd rr a rfl rfl rfl rfl, ⟨L, _, hL, by rw [e6, e9, e10], htr, e13, e14⟩⟩
          rw [hex]
          unfold resolve
          rw [hc]
          have hy := run_yield (P := P) (args := c.args.map ρ') e2 (by rw [e8, Array.size_map]; exact hsz)
          have hz : (l'.params.zip (c.args.map ρ')).foldl (fun tmps (x : Tmp × Value) => tmps.setIfInBounds x.1 x.2) l'.tmps = (r.params.toList.zip (c.args.toList.map ρ')).foldl (fun tmps (p : Tmp × Value) => tmps.setIfInBounds p.1 p.2) l'.tmps := by
            rw [← Array.foldl_toList, Array.toList_zip, e8]
            simp
          simp only [hv, Deferred.ofValue, hfe, Sem.run_bind, Sem.run_pure, Result.andThen, invoke, Array.empty_append]
          rw [hy]
          simp only [hz]

end
end Go.Proofs.YthiaocbikmiciaaGreatDoor.H
namespace Go.Proofs.YthiaocbikmiciaaGreatDoor.H
section
variable {P : Program} {nG : Nat} {trk : Bool} {h : HS} {φ : Phi} {G : AMap} {w : World}

theorem Snd.congr {r r' : R HNext} {s s' : Sem Next} (e : r' = r) (e' : s' = s) (k : Snd P nG trk h φ G w r s) : Snd P nG trk h φ G w r' s' := by subst e e'; exact k

theorem snd_hop {ρ ρ' : Operand → Value} {o : Oper} (hρ : ∀ x ∈ o.op.operands, VR φ (ρ x) (ρ' x)) : Snd P nG trk h φ G w (hop P trk ρ o h) (execOp ρ' o) := by
  cases ho : o.op
  case move x =>
    have hx := hρ x (by simp [ho, Op.operands])
    exact Snd.congr (by simp only [hop, ho]; try rfl) (by simp only [execOp, ho]; try rfl) (snd_move hx)
  case assign x =>
    have hx := hρ x (by simp [ho, Op.operands])
    exact Snd.congr (by simp only [hop, ho]; try rfl) (by simp only [execOp, ho]; try rfl) (snd_move hx)
  case pick c a b =>
    exact Snd.congr (by simp only [hop, ho]; try rfl) (by simp only [execOp, ho]; try rfl) (snd_pick (hρ c (by simp [ho, Op.operands])) (hρ a (by simp [ho, Op.operands])) (hρ b (by simp [ho, Op.operands])))
  case alloc e =>
    exact Snd.congr (by simp only [hop, ho]; try rfl) (by simp only [execOp, ho]; try rfl) snd_alloc
  case box e x =>
    exact Snd.congr (by simp only [hop, ho]; try rfl) (by simp only [execOp, ho]; try rfl) (snd_box (hρ x (by simp [ho, Op.operands])))
  case build t ps =>
    refine Snd.congr (by simp only [hop, ho]; try rfl) (by simp only [execOp, ho]; try rfl) (snd_build (ps' := ps.map fun (i, x) => (i, ρ' x)) ?_)
    have := PR.map (φ := φ) (ρ := ρ) (ρ' := ρ') (ps := ps.toList) (fun p hp => hρ p.2 (by simp only [ho, Op.operands]; simp; exact ⟨p.1, by simpa using hp⟩))
    simpa using this
  case buildSlice t n ps =>
    refine Snd.congr (by simp only [hop, ho]; try rfl) (by simp only [execOp, ho]; try rfl) (snd_buildSlice (ps' := ps.map fun (i, x) => (i, ρ' x)) ?_)
    have := PR.map (φ := φ) (ρ := ρ) (ρ' := ρ') (ps := ps.toList) (fun p hp => hρ p.2 (by simp only [ho, Op.operands]; simp; exact ⟨p.1, by simpa using hp⟩))
    simpa using this
  case load t a =>
    exact Snd.congr (by simp only [hop, ho]; try rfl) (by simp only [execOp, ho]; try rfl) (snd_load (hρ a (by simp [ho, Op.operands])))
  case store t a v =>
    exact Snd.congr (by simp only [hop, ho]; try rfl) (by simp only [execOp, ho]; try rfl) (snd_store (hρ a (by simp [ho, Op.operands])) (hρ v (by simp [ho, Op.operands])))
  case nilCheck x =>
    exact Snd.congr (by simp only [hop, ho]; try rfl) rfl (snd_nilCheck (hρ x (by simp [ho, Op.operands])) ho rfl)
  case binOp op t x y yt =>
    have hx := hρ x (by simp [ho, Op.operands])
    have hy := hρ y (by simp [ho, Op.operands])
    cases hc : hcmpNil P op t (ρ x) (ρ y) with
    | none => exact Snd.congr (by simp only [hop, ho, hc]; try rfl) rfl (snd_flat hρ)
    | some v =>
      have := snd_cmpNil (P := P) (nG := nG) (trk := trk) (h := h) (G := G) (w := w) (op := op) (t := t) (x := x) (y := y) hx hy
      rw [hc] at this
      exact Snd.congr (by simp only [hop, ho, hc]; try rfl) (by simp only [execOp, ho]; try rfl) this
  case makeInterface t x =>
    exact Snd.congr (by simp only [hop, ho]; try rfl) (by simp only [execOp, ho]; try rfl) (snd_makeInterface (hρ x (by simp [ho, Op.operands])))
  case makeFunc f a b =>
    refine Snd.congr (by simp only [hop, ho]; try rfl) (by simp only [execOp, ho]; try rfl) (snd_makeFunc (xs' := a.map ρ') (ys' := b.map ρ') ?_ ?_)
    · have := LR.map (φ := φ) (ρ := ρ) (ρ' := ρ') (l := a.toList) (fun x hx => hρ x (by simp only [ho, Op.operands]; simp; left; simpa using hx))
      simpa using this
    · have := LR.map (φ := φ) (ρ := ρ) (ρ' := ρ') (l := b.toList) (fun x hx => hρ x (by simp only [ho, Op.operands]; simp; right; simpa using hx))
      simpa using this
  case makeMap t r =>
    cases r with
    | some r => exact Snd.congr (r := none) (s' := execOp ρ' o) (by simp only [hop, ho]) rfl snd_none
    | none => exact Snd.congr (by simp only [hop, ho]; try rfl) (by simp only [execOp, ho]; try rfl) (snd_makeMap (t := t) (.inl rfl))
  case insert t m k v =>
    exact Snd.congr (by simp only [hop, ho]; try rfl) (by simp only [execOp, ho]; try rfl) (snd_mapUpdate (hρ m (by simp [ho, Op.operands])) (hρ k (by simp [ho, Op.operands])) (hρ v (by simp [ho, Op.operands])))
  case mapUpdate t m k v =>
    exact Snd.congr (by simp only [hop, ho]; try rfl) (by simp only [execOp, ho]; try rfl) (snd_mapUpdate (hρ m (by simp [ho, Op.operands])) (hρ k (by simp [ho, Op.operands])) (hρ v (by simp [ho, Op.operands])))
  case lookup t m k ok =>
    exact Snd.congr (by simp only [hop, ho]; try rfl) (by simp only [execOp, ho]; try rfl) (snd_lookup (hρ m (by simp [ho, Op.operands])) (hρ k (by simp [ho, Op.operands])))
  case makeSlice t l c =>
    exact Snd.congr (by simp only [hop, ho]; try rfl) (by simp only [execOp, ho]; try rfl) (snd_makeSlice (hρ l (by simp [ho, Op.operands])) (hρ c (by simp [ho, Op.operands])))
  case slice t x lo hi mx =>
    exact Snd.congr (by simp only [hop, ho]; try rfl) (by simp only [execOp, ho]; try rfl) (snd_slice (hρ x (by simp [ho, Op.operands]))
      (XR.map fun y e => hρ y (by simp [ho, Op.operands, e])) (XR.map fun y e => hρ y (by simp [ho, Op.operands, e])) (XR.map fun y e => hρ y (by simp [ho, Op.operands, e])))
  case fieldAddr t x f =>
    exact Snd.congr (by simp only [hop, ho]; try rfl) (by simp only [execOp, ho]; try rfl) (snd_fieldAddr (hρ x (by simp [ho, Op.operands])))
  case field t x f =>
    exact Snd.congr (by simp only [hop, ho]; try rfl) (by simp only [execOp, ho]; try rfl) (snd_field (hρ x (by simp [ho, Op.operands])))
  case indexAddr t x i =>
    exact Snd.congr (by simp only [hop, ho]; try rfl) (by simp only [execOp, ho]; try rfl) (snd_indexAddr (hρ x (by simp [ho, Op.operands])) (hρ i (by simp [ho, Op.operands])))
  case index t x i =>
    have hx := hρ x (by simp [ho, Op.operands])
    have hi := hρ i (by simp [ho, Op.operands])
    cases hc : hindex P t (ρ x) (ρ i) with
    | none => exact Snd.congr (by simp only [hop, ho, hc]; try rfl) rfl (snd_flat hρ)
    | some v =>
      have := snd_index (P := P) (nG := nG) (trk := trk) (h := h) (G := G) (w := w) (t := t) hx hi
      rw [hc] at this
      exact Snd.congr (by simp only [hop, ho, hc]; try rfl) (by simp only [execOp, ho]; try rfl) this
  case extract x i =>
    exact Snd.congr (by simp only [hop, ho]; try rfl) (by simp only [execOp, ho]; try rfl) (snd_extract (hρ x (by simp [ho, Op.operands])))
  case call c =>
    exact Snd.congr (by simp only [hop, ho]; try rfl) rfl (snd_call ho hρ)
  case unOp =>
    exact Snd.congr (by simp only [hop, ho]; try rfl) rfl (snd_flat hρ)
  case convert =>
    exact Snd.congr (by simp only [hop, ho]; try rfl) rfl (snd_flat hρ)
  all_goals exact Snd.congr (r := none) (s' := execOp ρ' o) (by simp only [hop, ho]) rfl snd_none

end
end Go.Proofs.YthiaocbikmiciaaGreatDoor.H
