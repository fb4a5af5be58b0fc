/- The machine that is run by the kernel, part 1: no claim of its own. -/
import Derived.Test.YthiaocbikmiciaaGreatDoorH0
import Derived.Laws.Sem
import Derived.Laws.CopyRow
import Derived.Laws.Cells
namespace Go.Proofs.YthiaocbikmiciaaGreatDoor.H
section

/-- A pure run, that asks nothing of memory. -/
def semP {α : Type} (P : Program) : Sem α → Option α
  | .pure a => some a
  | .program k => semP P (k P)
  | .mark _ k => semP P k
  | _ => none

theorem semP_run {α : Type} {P : Program} {s : Sem α} {a : α} (h : semP P s = some a) (w : World) : s.run P w = .ok a w := by
  induction s with
  | pure b => simp only [semP, Option.some.injEq] at h; subst h; rfl
  | program k ih => exact ih P h
  | mark m k ih => exact ih h
  | _ => simp [semP] at h

inductive HNext where
  | val (v : Value)
  | enter (f : FuncId) (args : Array Value)
  | round (id : Nat) (n : Nat) (tmps : Tr Value) (fn : FuncId) (assign body : Code)

abbrev R (α : Type) := Option (α × HS × Log)

def ret (trk : Bool) (h : HS) (v : Value) : R HNext := some (.val v, h, Log.nil trk)
def retO (trk : Bool) (h : HS) (v : Option Value) : R HNext := v.elim none (ret trk h)

/-- A new block. -/
def hnew (trk : Bool) (h : HS) (o : AObj) (v : Nat → Value) : R HNext :=
  bif Nat.blt h.next keyMax then some (.val (v h.next), ⟨h.m.put h.next (some o), h.next + 1⟩, Log.nil trk) else none

/-- A block is turned. -/
def hput (trk : Bool) (h : HS) (id : Nat) (o : AObj) (v : Value) : R HNext :=
  bif Nat.blt id keyMax then some (.val v, ⟨h.m.put id (some o), h.next⟩, Log.wr trk [id]) else none

def aggB (P : Program) (t : TypeId) : Bool :=
  match P.underlying t with
  | some (.struct _) => true
  | some (.array _ _) => true
  | _ => false

def sizeO (P : Program) (t : TypeId) : Option Nat := (P.info? t).map (·.size)
def zeroO (P : Program) (t : TypeId) : Option Value :=
  match (P.info? t).bind (·.zero) with
  | some z => bif flat 9 z then some z else none
  | none => none

def sub (cs : List Value) (off n : Nat) : Option (List Value) :=
  bif ((cs.drop off).take n).length.beq n then some ((cs.drop off).take n) else none

def splice (cs : List Value) (off : Nat) (vs : List Value) : List Value := cs.take off ++ vs ++ cs.drop (off + vs.length)

def hload (P : Program) (trk : Bool) (t : TypeId) (a : Value) (h : HS) : R HNext :=
  match a with
  | .pointer (some ⟨id, off, none⟩) =>
    match h.m.get id with
    | some (.cells cs _ _) =>
      bif aggB P t then
        match (sizeO P t).bind (sub cs off) with
        | some l => some (.val (.agg l.toArray), h, Log.rd trk [id])
        | none => none
      else match P.underlying t, cs[off]? with
        | some _, some v => some (.val v, h, Log.rd trk [id])
        | _, _ => none
    | _ => none
  | _ => none

def hstore (P : Program) (trk : Bool) (t : TypeId) (a v : Value) (h : HS) : R HNext :=
  match a with
  | .pointer (some ⟨id, off, none⟩) =>
    match h.m.get id with
    | some (.cells cs elem g) =>
      let vs := v.cells.toList
      bif ((sizeO P t).elim false (Nat.beq vs.length)) && Nat.ble (off + vs.length) cs.length && vs.all Value.oneCell' then hput trk h id (.cells (splice cs off vs) elem g) undef else none
    | _ => none
  | _ => none

def fieldsO (P : Program) (t : TypeId) : Option (Array Field) :=
  match P.underlying t with
  | some (.struct fs) => some fs
  | _ => none

def hfieldAddr (P : Program) (s : TypeId) (a : Value) (f : Nat) : Option Value :=
  match (fieldsO P s).bind (·[f]?), a with
  | some fl, .pointer (some ⟨id, off, none⟩) =>
    bif (sizeO P fl.type).elim false (fun n => Nat.blt 0 n) then some (.pointer (some ⟨id, off + fl.offset, none⟩)) else none
  | _, _ => none

def hpart (P : Program) (t : TypeId) (cs : Array Value) (off : Nat) : Option Value :=
  bif aggB P t then (sizeO P t).elim none (fun n => some (.agg (cs.extract off (off + n)))) else match P.underlying t with
    | some _ => cs[off]?
    | none => none

def hfield (P : Program) (t : TypeId) (x : Value) (f : Nat) : Option Value :=
  match (fieldsO P t).bind (·[f]?), x with
  | some fl, .agg cs => hpart P fl.type cs fl.offset
  | _, _ => none

def arrO (P : Program) (t : TypeId) : Option (Nat × TypeId) :=
  match P.underlying t with
  | some (.array n e) => some (n, e)
  | _ => none
def slcO (P : Program) (t : TypeId) : Option TypeId :=
  match P.underlying t with
  | some (.slice e) => some e
  | _ => none

def hindexAddr (P : Program) (t : TypeId) (x i : Value) : Option Value :=
  match i with
  | .int _ (.ofNat k) =>
    match x with
    | .slice (some ⟨id, off, none⟩) l _ =>
      match (slcO P t).bind (sizeO P) with
      | some n => bif Nat.blt k l then some (.pointer (some ⟨id, off + k * n, none⟩)) else none
      | none => none
    | .pointer (some ⟨id, off, none⟩) =>
      match arrO P t with
      | some (len, e) => match sizeO P e with
        | some n => bif Nat.blt k len then some (.pointer (some ⟨id, off + k * n, none⟩)) else none
        | none => none
      | none => none
    | _ => none
  | _ => none

def hindex (P : Program) (t : TypeId) (x i : Value) : Option Value :=
  match i, x, arrO P t with
  | .int _ (.ofNat k), .agg cs, some (len, e) =>
    match sizeO P e with
    | some n => bif Nat.blt k len then hpart P e cs (k * n) else none
    | none => none
  | _, _, _ => none

def hextract (x : Value) (i : Nat) : Option Value :=
  match x with
  | .tuple vs => vs[i]?
  | _ => none

/-- The parts of a literal: 'Instr.fill', on lists. -/
def fillL (place : Nat → Option (Nat × Nat)) (cells : List Value) : List (Nat × Value) → Option (List Value)
  | [] => some cells
  | (i, v) :: rest =>
    match place i with
    | none => none
    | some (off, size) =>
      let vs := v.cells.toList
      bif vs.length.beq size && Nat.ble (off + vs.length) cells.length then fillL place (splice cells off vs) rest else none

def placesO (P : Program) (fs : Array Field) (i : Nat) : Option (Nat × Nat) :=
  fs[i]?.bind fun f => (sizeO P f.type).map fun n => (f.offset, n)

def hbuild (P : Program) (t : TypeId) (parts : List (Nat × Value)) : Option Value :=
  match zeroO P t with
  | none => none
  | some z =>
    match fieldsO P t with
    | some fs => bif fs.toList.all (fun f => (sizeO P f.type).isSome) then (fillL (placesO P fs) z.cells.toList parts).map fun l => .agg l.toArray else none
    | none =>
      match arrO P t with
      | some (_, e) => (sizeO P e).elim none fun n => (fillL (fun i => some (i * n, n)) z.cells.toList parts).map fun l => .agg l.toArray
      | none => none

/-- So many elements that are nought. -/
def zerosL (z : List Value) : Nat → List Value
  | 0 => []
  | n + 1 => z ++ zerosL z n

def hbuildSlice (P : Program) (trk : Bool) (t : TypeId) (len : Nat) (parts : List (Nat × Value)) (h : HS) : R HNext :=
  match slcO P t with
  | none => none
  | some e =>
    match sizeO P e, zeroO P e with
    | some n, some z =>
      bif Nat.ble (len * n) 16777216 && z.cells.toList.length.beq n then
        match fillL (fun i => some (i * n, n)) (zerosL z.cells.toList len) parts with
        | some l => hnew trk h (.cells l e false) fun id => .slice (some ⟨id, 0, none⟩) len len
        | none => none
      else none
    | _, _ => none

def hmakeSlice (P : Program) (trk : Bool) (t : TypeId) (l c : Value) (h : HS) : R HNext :=
  match slcO P t, l, c with
  | some e, .int _ (.ofNat l), .int _ (.ofNat c) =>
    match P.info? e, zeroO P e with
    | some i, some z =>
      bif Nat.ble l c && Nat.ble (i.bytes * c) 281474976710656 && Nat.ble c 281474976710656 && z.cells.toList.length.beq i.size then
        hnew trk h (.cells (zerosL z.cells.toList c) e false) fun id => .slice (some ⟨id, 0, none⟩) l c
      else none
    | _, _ => none
  | _, _, _ => none

/-- A bound of a slice: left out, or a number up to a bound. -/
def bnd (x : Option Value) (d most : Nat) : Option Nat :=
  match x with
  | none => some d
  | some (.int _ (.ofNat k)) => bif Nat.ble k most then some k else none
  | _ => none

def hslice (P : Program) (trk : Bool) (t : TypeId) (x : Value) (lo hi mx : Option Value) (h : HS) : R HNext :=
  match x with
  | .string s =>
    match P.underlying t, mx, bnd hi s.size s.size with
    | some .string, none, some b =>
      match bnd lo 0 b with
      | some a => ret trk h (.string (s.extract a b))
      | none => none
    | _, _, _ => none
  | .slice none l c =>
    match slcO P t, mx, bnd hi l 0 with
    | some e, none, some b =>
      match bnd lo 0 b, sizeO P e with
      | some a, some _ => bif l.beq 0 && c.beq 0 && a.beq 0 && b.beq 0 then ret trk h (.slice none 0 0) else none
      | _, _ => none
    | _, _, _ => none
  | .slice (some ⟨id, off, none⟩) l c =>
    match slcO P t, bnd mx c c with
    | some e, some m =>
      match bnd hi l m with
      | some b =>
        match bnd lo 0 b, sizeO P e, h.m.get id with
        | some a, some n, some (.cells _ elem g) =>
          bif (mx.isNone || hi.isSome) && Nat.ble l c && (!g || Nat.beq (P.cellsOf elem) n) then
            some (.val (.slice (some ⟨id, (bif m.beq a && !g then off else off + a * n), none⟩) (b - a) (m - a)), h, Log.rd trk [id])
          else none
        | _, _, _ => none
      | none => none
    | _, _ => none
  | .pointer (some ⟨id, off, none⟩) =>
    match arrO P t, mx with
    | some (len, e), none =>
      match bnd hi len len with
      | some b =>
        match bnd lo 0 b, sizeO P e, h.m.get id with
        | some a, some n, some (.cells _ _ g) => bif g then none else some (.val (.slice (some ⟨id, (bif len.beq a then off else off + a * n), none⟩) (b - a) (len - a)), h, Log.rd trk [id])
        | _, _, _ => none
      | none => none
    | _, _ => none
  | _ => none

end
end Go.Proofs.YthiaocbikmiciaaGreatDoor.H
namespace Go.Proofs.YthiaocbikmiciaaGreatDoor.H
section

theorem Rel.mono_heap {P : Program} {nG : Nat} {φ : Phi} {G : AMap} {w w' : World} (r : Rel P nG φ G w) (hw : ∀ id o L, G id = some o → φ id = some L → w'.heap[L.blk]? = w.heap[L.blk]?) : Rel P nG φ G w' :=
  ⟨fun id o hG => by
    obtain ⟨L, ob, h1, h2, h3⟩ := r.live id o hG
    exact ⟨L, ob, h1, by rw [hw id o L hG h1]; exact h2, h3⟩, r.inj, r.glob⟩

theorem Upd_rd {trk : Bool} {l : List Nat} {h : HS} {G : AMap} (a : Agree (Log.rd trk l) h G) : Upd (Log.rd trk l) h h G = G := by
  funext id
  cases trk with
  | false => exact (a id).symm
  | true =>
    simp only [Upd, Log.rd, cond_true]
    rw [if_neg]
    rintro (c | c)
    · simp at c
    · omega

theorem Log.nil_eq (trk : Bool) : Log.nil trk = Log.rd trk [] := by cases trk <;> rfl

theorem Log.rd_isSome (trk : Bool) (l : List Nat) : (Log.rd trk l).isSome = trk := by cases trk <;> rfl
theorem Log.nil_isSome (trk : Bool) : (Log.nil trk).isSome = trk := by cases trk <;> rfl
theorem Log.wr_isSome (trk : Bool) (l : List Nat) : (Log.wr trk l).isSome = trk := by cases trk <;> rfl

theorem LogOK.rd (trk : Bool) (l : List Nat) (h : HS) : LogOK (Log.rd trk l) h h := ⟨Nat.le_refl _, by cases trk <;> simp [Log.rd]⟩

theorem Post.rd {P : Program} {nG : Nat} {trk : Bool} {l : List Nat} {h : HS} {φ : Phi} {G : AMap} {w w' : World} (r : Rel P nG φ G w) (a : Agree (Log.rd trk l) h G)
    (hh : w'.heap = w.heap) (ht : w'.tape = w.tape) (ho : w'.os = w.os) (hu : w'.output = w.output) : Post P nG (Log.rd trk l) h h φ G w φ w' where
  le := Le.refl _
  only := fun id L h1 h2 => by simp [h1] at h2
  rel := by rw [Upd_rd a]; exact r.mono_heap fun _ _ _ _ _ => by rw [hh]
  kept := fun b _ _ => by rw [hh]
  orig := fun id o L h1 h2 _ => by rw [Upd_rd a] at h1; exact ⟨id, o, L, h1, h2, rfl⟩
  size := by rw [hh]; exact Nat.le_refl _
  tape := ht
  os := ho
  out := hu
  log := LogOK.rd _ _ _
  wf := id

/-- The state behind a new block. -/
def HS.push (h : HS) (o : AObj) : HS := ⟨h.m.put h.next (some o), h.next + 1⟩

theorem HS.get_push {h : HS} {o : AObj} (hk : h.next < keyMax) (id : Nat) : (h.push o).m.get id = if id = h.next then some o else h.m.get id := Tr.get_put _ _ _ _ hk

theorem Upd_push {trk : Bool} {l : List Nat} {h : HS} {o : AObj} {G : AMap} (hk : h.next < keyMax) (a : Agree (Log.rd trk l) h G) (id : Nat) :
    Upd (Log.rd trk l) h (h.push o) G id = if id = h.next then some o else G id := by
  cases trk with
  | false => simp only [Upd, Log.rd, cond_false, HS.get_push hk]; rw [a id]
  | true =>
    simp only [Upd, Log.rd, cond_true, List.not_mem_nil, false_or, HS.get_push hk]
    by_cases e : id = h.next
    · subst e; simp [HS.push]
    · have : ¬ (h.next ≤ id ∧ id < (h.push o).next) := by simp [HS.push]; omega
      simp [e, this]

theorem LogOK.push {trk : Bool} {l : List Nat} {h : HS} {o : AObj} (hk : h.next < keyMax) : LogOK (Log.rd trk l) h (h.push o) := by
  refine ⟨Nat.le_succ _, ?_⟩
  cases trk with
  | false => trivial
  | true =>
    intro id _ hn
    rw [HS.get_push hk, if_neg]
    intro e
    exact hn ⟨by omega, by simp [HS.push]; omega⟩

theorem WF.push {h : HS} {o : AObj} (hk : h.next < keyMax) (hw : WF h) : WF (h.push o) := fun id hi => by
  rw [HS.get_push hk, if_neg (by simp [HS.push] at hi; omega)]
  exact hw id (by simp [HS.push] at hi; omega)

/-- A new block in both. -/
theorem Post.push {P : Program} {nG : Nat} {trk : Bool} {l : List Nat} {h : HS} {o : AObj} {ob : Obj} {L : Loc} {φ : Phi} {G : AMap} {w w' : World} (hk : h.next < keyMax) (r : Rel P nG φ G w)
    (a : Agree (Log.rd trk l) h G) (hf : Fresh φ G h (h.push o)) (hL : L.blk = w.heap.size) (hw : w'.heap = w.heap.push ob) (ht : w'.tape = w.tape) (ho : w'.os = w.os) (hu : w'.output = w.output)
    (hO : OR P nG (fun id => if id = h.next then some L else φ id) L o ob) :
    Post P nG (Log.rd trk l) h (h.push o) φ G w (fun id => if id = h.next then some L else φ id) w' := by
  have hfr := hf h.next (Nat.le_refl _) (Nat.lt_succ_self _)
  have hle : Le φ (fun id => if id = h.next then some L else φ id) := fun id M e => by
    by_cases q : id = h.next
    · subst q; rw [hfr.1] at e; cases e
    · simp [q, e]
  have hblk : ∀ id o L, G id = some o → φ id = some L → L.blk < w.heap.size := fun id o M h1 h2 => by
    obtain ⟨M', ob', e1, e2, _⟩ := r.live id o h1
    rw [h2] at e1; cases e1
    exact (Array.getElem?_eq_some_iff.1 e2).1
  have hold : ∀ b, b < w.heap.size → w'.heap[b]? = w.heap[b]? := fun b hb => by
    rw [hw, Array.getElem?_push, if_neg (by omega)]
  have hnew : w'.heap[w.heap.size]? = some ob := by rw [hw]; simp
  constructor
  · exact hle
  · intro id M h1 h2
    by_cases q : id = h.next
    · subst q; exact ⟨Nat.le_refl _, Nat.lt_succ_self _⟩
    · simp only [q, if_false] at h1; rw [h1] at h2; cases h2
  · constructor
    · intro id o' hG
      rw [Upd_push hk a] at hG
      by_cases q : id = h.next
      · subst q
        simp only [if_true, Option.some.injEq] at hG
        subst hG
        exact ⟨L, ob, by simp, by rw [hL]; exact hnew, hO⟩
      · simp only [q, if_false] at hG
        obtain ⟨M, ob', e1, e2, e3⟩ := r.live id o' hG
        exact ⟨M, ob', by simp [q, e1], by rw [hold _ (hblk id o' M hG e1)]; exact e2, e3.mono hle⟩
    · intro i j oi oj Li Lj h1 h2 h3 h4 h5
      rw [Upd_push hk a] at h1 h2
      by_cases qi : i = h.next
      · by_cases qj : j = h.next
        · rw [qi, qj]
        · simp only [qi, if_true, Option.some.injEq] at h3
          simp only [qj, if_false] at h2 h4
          have := hblk j oj Lj h2 h4
          subst h3; omega
      · by_cases qj : j = h.next
        · simp only [qj, if_true, Option.some.injEq] at h4
          simp only [qi, if_false] at h1 h3
          have := hblk i oi Li h1 h3
          subst h4; omega
        · simp only [qi, qj, if_false] at h1 h2 h3 h4
          exact r.inj i j oi oj Li Lj h1 h2 h3 h4 h5
    · intro g hg
      obtain ⟨M, e1, e2⟩ := r.glob g hg
      exact ⟨M, hle _ _ e1, e2⟩
  · intro b hb _; exact hold b hb
  · intro id o' M h1 h2 h3
    rw [Upd_push hk a] at h1
    by_cases q : id = h.next
    · simp only [q, if_true, Option.some.injEq] at h2; subst h2; omega
    · simp only [q, if_false] at h1 h2
      exact ⟨id, o', M, h1, h2, rfl⟩
  · rw [hw]; simp
  · exact ht
  · exact ho
  · exact hu
  · exact LogOK.push hk
  · exact WF.push hk

/-- The state behind a store. -/
def HS.turn (h : HS) (id : Nat) (o : Option AObj) : HS := ⟨h.m.put id o, h.next⟩
theorem HS.get_turn {h : HS} {k : Nat} {o : Option AObj} (hk : k < keyMax) (id : Nat) : (h.turn k o).m.get id = if id = k then o else h.m.get id := Tr.get_put _ _ _ _ hk

theorem Upd_turn {trk : Bool} {h : HS} {k : Nat} {o : Option AObj} {G : AMap} (hk : k < keyMax) (a : Agree (Log.wr trk [k]) h G) (id : Nat) :
    Upd (Log.wr trk [k]) h (h.turn k o) G id = if id = k then o else G id := by
  cases trk with
  | false => simp only [Upd, Log.wr, cond_false, HS.get_turn hk]; rw [a id]
  | true =>
    simp only [Upd, Log.wr, cond_true, List.mem_singleton, HS.get_turn hk]
    by_cases e : id = k
    · simp [e]
    · have : ¬ (h.next ≤ id ∧ id < (h.turn k o).next) := by simp only [HS.turn]; omega
      simp [e, this]

theorem Agree.wr_get {trk : Bool} {h : HS} {k : Nat} {o : AObj} {G : AMap} (a : Agree (Log.wr trk [k]) h G) (hw : WF h) (hg : h.m.get k = some o) : G k = some o := by
  cases trk with
  | false => rw [a k, hg]
  | true =>
    refine (a k (by simp) ?_).trans hg
    rcases Nat.lt_or_ge k h.next with q | q
    · exact q
    · rw [hw k q] at hg; cases hg
theorem Agree.rd_get {trk : Bool} {h : HS} {k : Nat} {l : List Nat} {o : AObj} {G : AMap} (a : Agree (Log.rd trk l) h G) (hm : k ∈ l) (hw : WF h) (hg : h.m.get k = some o) : G k = some o := by
  cases trk with
  | false => rw [a k, hg]
  | true =>
    refine (a k hm ?_).trans hg
    rcases Nat.lt_or_ge k h.next with q | q
    · exact q
    · rw [hw k q] at hg; cases hg

theorem LogOK.turn {trk : Bool} {h : HS} {k : Nat} {o : Option AObj} (hk : k < keyMax) : LogOK (Log.wr trk [k]) h (h.turn k o) := by
  refine ⟨Nat.le_refl _, ?_⟩
  cases trk with
  | false => trivial
  | true =>
    intro id hn _
    rw [HS.get_turn hk, if_neg (by simpa using hn)]

theorem WF.turn {h : HS} {k : Nat} {o : AObj} {o' : Option AObj} (hk : k < keyMax) (hg : h.m.get k = some o) (hw : WF h) : WF (h.turn k o') := fun id hi => by
  rw [HS.get_turn hk, if_neg]
  · exact hw id hi
  · rintro rfl
    rw [hw id hi] at hg; cases hg

/-- A block is turned in both. -/
theorem Post.turn {P : Program} {nG : Nat} {trk : Bool} {h : HS} {k : Nat} {o o₀ : AObj} {ob : Obj} {L : Loc} {φ : Phi} {G : AMap} {w w' : World} (hk : k < keyMax) (r : Rel P nG φ G w) (hwf : WF h)
    (a : Agree (Log.wr trk [k]) h G) (hg : h.m.get k = some o₀) (hφ : φ k = some L) (hs : w'.heap.size = w.heap.size) (hw : ∀ b, b ≠ L.blk → w'.heap[b]? = w.heap[b]?) (hb : w'.heap[L.blk]? = some ob)
    (ht : w'.tape = w.tape) (ho : w'.os = w.os) (hu : w'.output = w.output) (hO : OR P nG φ L o ob) :
    Post P nG (Log.wr trk [k]) h (h.turn k (some o)) φ G w φ w' := by
  have hG := a.wr_get hwf hg
  constructor
  · exact Le.refl _
  · intro id M h1 h2; simp [h1] at h2
  · constructor
    · intro id o' hG'
      rw [Upd_turn hk a] at hG'
      by_cases q : id = k
      · subst q
        simp only [if_true, Option.some.injEq] at hG'
        subst hG'
        exact ⟨L, ob, hφ, hb, hO⟩
      · simp only [q, if_false] at hG'
        obtain ⟨M, ob', e1, e2, e3⟩ := r.live id o' hG'
        refine ⟨M, ob', e1, ?_, e3⟩
        rw [hw]; · exact e2
        intro e
        exact q (r.inj id k o' o₀ M L hG' hG e1 hφ e)
    · intro i j oi oj Li Lj h1 h2 h3 h4 h5
      rw [Upd_turn hk a] at h1 h2
      have gi : ∃ o, G i = some o := by
        by_cases q : i = k
        · exact ⟨o₀, q ▸ hG⟩
        · exact ⟨oi, by simpa [q] using h1⟩
      have gj : ∃ o, G j = some o := by
        by_cases q : j = k
        · exact ⟨o₀, q ▸ hG⟩
        · exact ⟨oj, by simpa [q] using h2⟩
      obtain ⟨a1, b1⟩ := gi
      obtain ⟨a2, b2⟩ := gj
      exact r.inj i j a1 a2 Li Lj b1 b2 h3 h4 h5
    · exact r.glob
  · intro b _ hno
    exact hw b (fun e => hno k o₀ L hG hφ e.symm)
  · intro id o' M h1 h2 _
    rw [Upd_turn hk a] at h1
    by_cases q : id = k
    · subst q; exact ⟨id, o₀, M, hG, h2, rfl⟩
    · simp only [q, if_false] at h1; exact ⟨id, o', M, h1, h2, rfl⟩
  · exact Nat.le_of_eq hs.symm
  · exact ht
  · exact ho
  · exact hu
  · exact LogOK.turn hk
  · exact fun hw' => WF.turn hk hg hw'

end
end Go.Proofs.YthiaocbikmiciaaGreatDoor.H
namespace Go.Proofs.YthiaocbikmiciaaGreatDoor.H
section

/-- What comes of an operation. -/
def NR (nG : Nat) (φ : Phi) : HNext → Next → Prop
  | .val v, y => (∃ v', y = .value v' ∧ VR φ v v') ∨ (y = .skip ∧ v = undef)
  | .enter f args, y => ∃ args', y = .enter f args' ∧ LR φ args.toList args'.toList
  | .round id n tmps fn a b, y => ∃ L tmps', φ id = some L ∧ y = .round L.blk fn tmps' a b ∧ TR φ n tmps tmps' ∧ okC nG a = true ∧ okC nG b = true

def Snd (P : Program) (nG : Nat) (trk : Bool) (h : HS) (φ : Phi) (G : AMap) (w : World) (r : R HNext) (s : Sem Next) : Prop :=
  ∀ x h' ℓ, r = some (x, h', ℓ) → WF h → Rel P nG φ G w → Agree ℓ h G → Fresh φ G h h' →
    ℓ.isSome = trk ∧ ∃ ψ y w', s.run P w = .ok y w' ∧ Post P nG ℓ h h' φ G w ψ w' ∧ NR nG ψ x y

/-- 'v (s)' of the model's dispatch. -/
def valS (s : Sem Value) : Sem Next := do pure (.value (← s))
def unitS (s : Sem Unit) : Sem Next := do s; pure .skip

variable {P : Program} {nG : Nat} {trk : Bool} {h : HS} {φ : Phi} {G : AMap} {w : World}

theorem snd_rd {l : List Nat} {v : Value} {s : Sem Next} (hs : WF h → Rel P nG φ G w → Agree (Log.rd trk l) h G → ∃ y, s.run P w = .ok y w ∧ NR nG φ (.val v) y) :
    Snd P nG trk h φ G w (some (.val v, h, Log.rd trk l)) s := by
  rintro x h' ℓ e hwf r a hf
  simp only [Option.some.injEq, Prod.mk.injEq] at e
  obtain ⟨rfl, rfl, rfl⟩ := e
  obtain ⟨y, h1, h2⟩ := hs hwf r a
  exact ⟨Log.rd_isSome _ _, φ, y, w, h1, Post.rd r a rfl rfl rfl rfl, h2⟩

theorem snd_ret {v : Value} {s : Sem Next} (hs : Rel P nG φ G w → ∃ y, s.run P w = .ok y w ∧ NR nG φ (.val v) y) : Snd P nG trk h φ G w (ret trk h v) s := by
  unfold ret
  rw [Log.nil_eq]
  exact snd_rd fun _ r _ => hs r

theorem snd_none {s : Sem Next} : Snd P nG trk h φ G w none s := by
  rintro x h' ℓ e; cases e

theorem snd_retO {v : Option Value} {s : Sem Next} (hs : ∀ u, v = some u → Rel P nG φ G w → ∃ y, s.run P w = .ok y w ∧ NR nG φ (.val u) y) : Snd P nG trk h φ G w (retO trk h v) s := by
  cases v with
  | none => exact snd_none
  | some u => exact snd_ret (hs u rfl)

theorem snd_val {v v' : Value} {s : Sem Value} (hs : s.run P w = .ok v' w) (hv : VR φ v v') : ∃ y, (valS s).run P w = .ok y w ∧ NR nG φ (.val v) y :=
  ⟨.value v', by simp [valS, hs], .inl ⟨v', rfl, hv⟩⟩

theorem snd_retV {v : Option Value} {s : Sem Value} (hs : ∀ u, v = some u → Rel P nG φ G w → ∃ u', s.run P w = .ok u' w ∧ VR φ u u') : Snd P nG trk h φ G w (retO trk h v) (valS s) :=
  snd_retO fun u e r => let ⟨_, h1, h2⟩ := hs u e r; snd_val h1 h2

theorem snd_new {o : AObj} {v : Nat → Value} {s : Sem Value} {ob : Obj} {v' : Value} {L : Loc} (hs : s.run P w = .ok v' (w.alloc ob)) (hL : L.blk = w.heap.size)
    (hO : ∀ ψ, Le φ ψ → ψ h.next = some L → OR P nG ψ L o ob) (hv : ∀ ψ, ψ h.next = some L → VR ψ (v h.next) v') :
    Snd P nG trk h φ G w (hnew trk h o v) (valS s) := by
  rintro x h' ℓ e hwf r a hf
  unfold hnew at e
  by_cases hk : h.next < keyMax
  · have : Nat.blt h.next keyMax = true := by simpa [Nat.blt_eq] using hk
    rw [this] at e
    simp only [cond_true, Option.some.injEq, Prod.mk.injEq] at e
    obtain ⟨rfl, rfl, rfl⟩ := e
    rw [Log.nil_eq] at a ⊢
    have hfr := hf h.next (Nat.le_refl _) (Nat.lt_succ_self _)
    have hle : Le φ (fun id => if id = h.next then some L else φ id) := fun id M e => by
      by_cases q : id = h.next
      · subst q; rw [hfr.1] at e; cases e
      · simp [q, e]
    refine ⟨Log.rd_isSome _ _, _, .value v', w.alloc ob, by simp [valS, hs], Post.push hk r a hf hL rfl rfl rfl rfl (hO _ hle (by simp)), .inl ⟨v', rfl, hv _ (by simp)⟩⟩
  · have : Nat.blt h.next keyMax = false := by
      cases q : Nat.blt h.next keyMax with
      | false => rfl
      | true => exact absurd (by simpa [Nat.blt_eq] using q) hk
    rw [this] at e
    simp at e

theorem OR_new {cs cs' : List Value} {elem : TypeId} {b : Nat} (hc : LR φ cs cs') : OR P nG φ ⟨b, 0, cs'.length, P.cellsOf elem, false⟩ (.cells cs elem false) (.cells cs'.toArray elem) :=
  ⟨cs'.toArray, rfl, by simp, rfl, rfl, by simp [hc.1], fun _ => ⟨rfl, hc.1⟩, fun i a => by
    have hb : i < cs'.length := hc.1 ▸ a
    exact ⟨cs'[i], by simp [hb], hc.2 i a hb⟩⟩

/-- Reading a block. -/
theorem rel_cells (r : Rel P nG φ G w) {id : Nat} {cs : List Value} {elem : TypeId} {g : Bool} (hG : G id = some (.cells cs elem g)) {L : Loc} (hL : φ id = some L) :
    ∃ c : Array Value, w.heap[L.blk]? = some (.cells c elem (0, 0)) ∧ c.size = L.size ∧ L.grown = g ∧ L.esz = P.cellsOf elem ∧ L.base + cs.length ≤ L.size ∧
      (g = false → L.base = 0 ∧ cs.length = L.size) ∧ ∀ i (a : i < cs.length), ∃ v, c[L.base + i]? = some v ∧ VR φ cs[i] v := by
  obtain ⟨M, ob, e1, e2, c, h1, h2⟩ := r.live id _ hG
  rw [hL] at e1; cases e1
  exact ⟨c, by rw [e2, h1], h2⟩

theorem cell_of_heap {w : World} {b i : Nat} {c : Array Value} {t : TypeId} {f : Nat × Nat} {v : Value} (hb : w.heap[b]? = some (.cells c t f)) (hc : c[i]? = some v) : w.cell? ⟨b, i, none⟩ = some v := by
  simp [World.cell?, hb, hc]

theorem add_none (b o i : Nat) : (⟨b, o, none⟩ : Addr).add i = ⟨b, o + i, none⟩ := by unfold Addr.add; split <;> simp_all

theorem run_isAgg {t : TypeId} (ht : (P.underlying t).isSome = true) : (isAgg t).run P w = .ok (aggB P t) w := by
  cases hu : P.underlying t with
  | none => simp [hu] at ht
  | some d => cases d <;> simp [isAgg, run_underlying hu, aggB, hu]

theorem run_sizeOf {t : TypeId} {n : Nat} (ht : sizeO P t = some n) : (sizeOf t).run P w = .ok n w := by
  unfold sizeO at ht
  cases hi : P.info? t with
  | none => simp [hi] at ht
  | some i => simp [hi] at ht; simp [sizeOf, typeInfo, hi, ht]

theorem run_zero {t : TypeId} {z : Value} (ht : zeroO P t = some z) : (zeroValue t).run P w = .ok z w := by
  unfold zeroO at ht
  cases hi : P.info? t with
  | none => simp [hi] at ht
  | some i =>
    cases hz : i.zero with
    | none => simp [hi, hz] at ht
    | some z' =>
      simp only [hi, hz, Option.bind_some] at ht
      cases hf : flat 9 z' <;> simp [hf] at ht
      subst ht
      simp [zeroValue, typeInfo, hi, hz]

theorem zero_flat {t : TypeId} {z : Value} (ht : zeroO P t = some z) : VR φ z z := by
  unfold zeroO at ht
  cases hi : (P.info? t).bind (·.zero) with
  | none => simp [hi] at ht
  | some z' =>
    simp only [hi] at ht
    cases hf : flat 9 z' <;> simp [hf] at ht
    subst ht
    exact VR.of_flat 9 hf

theorem agg_under {t : TypeId} (h : aggB P t = true) : (P.underlying t).isSome = true := by
  unfold aggB at h
  cases hu : P.underlying t <;> simp [hu] at h ⊢

/-- Cells that are read. -/
theorem run_cells {id : Nat} {cs : List Value} {elem : TypeId} {g : Bool} (r : Rel P nG φ G w) (hG : G id = some (.cells cs elem g)) {L : Loc} (hL : φ id = some L) {off n : Nat} {l : List Value} (hl : sub cs off n = some l) :
    ∃ l', (∀ w' : World, w'.heap = w.heap → (loadCells ⟨L.blk, L.base + off, none⟩ n).run P w' = .ok l'.toArray w') ∧ LR φ l l' ∧ l.length = n := by
  obtain ⟨c, h1, h2, h3, h4, h5, h6, h7⟩ := rel_cells r hG hL
  unfold sub at hl
  have hlen : ((cs.drop off).take n).length = n := by
    by_cases q : ((cs.drop off).take n).length.beq n = true
    · exact Nat.eq_of_beq_eq_true q
    · simp only [Bool.not_eq_true] at q; rw [q] at hl; cases hl
  have : ((cs.drop off).take n).length.beq n = true := by rw [hlen]; exact Nat.beq_refl n
  rw [this] at hl
  simp only [cond_true, Option.some.injEq] at hl
  subst hl
  have hle : n = 0 ∨ off + n ≤ cs.length := by simp at hlen; omega
  have hj : ∀ j, j < n → ∃ v, c[L.base + (off + j)]? = some v ∧ VR φ (cs[off + j]?.getD undef) v := fun j hj => by
    have hlt : off + j < cs.length := by omega
    obtain ⟨v, e1, e2⟩ := h7 (off + j) hlt
    exact ⟨v, e1, by simpa [hlt] using e2⟩
  refine ⟨(List.range n).map fun j => (c[L.base + (off + j)]?).getD undef, ?_, ⟨by simp [hlen], fun i a b => ?_⟩, hlen⟩
  · intro w' hw'
    refine run_loadCells w' _ n (fun j => (c[L.base + (off + j)]?).getD undef) fun j hjn => ?_
    obtain ⟨v, e1, _⟩ := hj j hjn
    rw [add_none, cell_of_heap (by rw [hw']; exact h1) (by rw [Nat.add_assoc]; exact e1), e1]; rfl
  · have hin : i < n := by simpa using b
    obtain ⟨v, e1, e2⟩ := hj i hin
    have hlt : off + i < cs.length := by omega
    simp only [List.getElem_take, List.getElem_drop, List.getElem_map, List.getElem_range, e1, Option.getD_some]
    simpa [hlt] using e2

theorem snd_load {t : TypeId} {a a' : Value} (ha : VR φ a a') : Snd P nG trk h φ G w (hload P trk t a h) (valS (Instr.loadAt t a')) := by
  cases ha
  case pointer id L off hφ =>
    simp only [hload]
    cases hg : h.m.get id with
    | none => exact snd_none
    | some o =>
      cases o with
      | cells cs elem g =>
        simp only
        cases hagg : aggB P t with
        | true =>
          simp only [cond_true]
          cases hl : (sizeO P t).bind (sub cs off) with
          | none => exact snd_none
          | some l =>
            refine snd_rd fun hwf r a => ?_
            obtain ⟨n, hn, hl⟩ := Option.bind_eq_some_iff.1 hl
            obtain ⟨l', e1, e2, _⟩ := run_cells r (a.rd_get (by simp) hwf hg) hφ hl
            refine snd_val (v' := .agg l'.toArray) ?_ (VR.of_LR e2)
            simp [Instr.loadAt, Instr.sureAddr, loadVar, run_isAgg (agg_under hagg), hagg, run_sizeOf hn, e1 w rfl]
        | false =>
          simp only [cond_false]
          cases hu : P.underlying t with
          | none => exact snd_none
          | some d =>
          cases hl : cs[off]? with
          | none => exact snd_none
          | some v =>
            simp only
            refine snd_rd fun hwf r a => ?_
            obtain ⟨c, h1, h2, h3, h4, h5, h6, h7⟩ := rel_cells r (a.rd_get (by simp) hwf hg) hφ
            obtain ⟨hlt, rfl⟩ := List.getElem?_eq_some_iff.1 hl
            obtain ⟨v', e1, e2⟩ := h7 off hlt
            refine snd_val (v' := v') ?_ e2
            simp [Instr.loadAt, Instr.sureAddr, loadVar, run_isAgg (P := P) (t := t) (by simp [hu]), hagg, cell_of_heap h1 e1]
      | map => exact snd_none
      | loop => exact snd_none
      | deferred => exact snd_none
  all_goals exact snd_none


theorem VR.one {v v' : Value} (h : VR φ v v') (h1 : v.oneCell' = true) : v'.oneCell' = true := by
  cases h <;> simp_all [Value.oneCell']

theorem splice_length {cs vs : List Value} {off : Nat} (h : off + vs.length ≤ cs.length) : (splice cs off vs).length = cs.length := by
  simp [splice]; omega

theorem splice_get {cs vs : List Value} {off : Nat} (h : off + vs.length ≤ cs.length) (i : Nat) : (splice cs off vs)[i]? = if off ≤ i ∧ i < off + vs.length then vs[i - off]? else cs[i]? := by
  unfold splice
  rw [List.append_assoc]
  by_cases h1 : i < off
  · rw [List.getElem?_append_left (by simp; omega), if_neg (by omega), List.getElem?_take_of_lt h1]
  · rw [List.getElem?_append_right (by simp; omega)]
    have : (cs.take off).length = off := by simp; omega
    rw [this]
    by_cases h2 : i < off + vs.length
    · rw [List.getElem?_append_left (by omega), if_pos ⟨by omega, h2⟩]
    · rw [List.getElem?_append_right (by omega), if_neg (by omega), List.getElem?_drop]
      congr 1
      omega

/-- Cells that are written. -/
theorem run_splice {id : Nat} {cs : List Value} {elem : TypeId} {g : Bool} (r : Rel P nG φ G w) (hG : G id = some (.cells cs elem g)) {L : Loc} (hL : φ id = some L) {off : Nat} {vs vs' : List Value}
    (hlen : off + vs.length ≤ cs.length) (hv : LR φ vs vs') (h1 : ∀ v ∈ vs, v.oneCell' = true) :
    ∃ c' : Array Value, (storeCells ⟨L.blk, L.base + off, none⟩ vs').run P w = .ok () (w.setRow L.blk c') ∧ (w.setRow L.blk c').heap[L.blk]? = some (.cells c' elem (0, 0)) ∧
      OR P nG φ L (.cells (splice cs off vs) elem g) (.cells c' elem (0, 0)) := by
  obtain ⟨c, e1, e2, e3, e4, e5, e6, e7⟩ := rel_cells r hG hL
  have hl' := hv.1
  have hone : ∀ v ∈ vs', v.oneCell' = true := by
    intro v hm
    obtain ⟨i, hi, rfl⟩ := List.getElem_of_mem hm
    exact (hv.2 i (by omega) hi).one (h1 _ (List.getElem_mem _))
  have hst := run_storeCells_at P L.blk (L.base + off) elem vs' 0 c w e1 (by omega) hone
  simp only [Nat.add_zero] at hst
  refine ⟨_, hst, setRow_heap _ _ _ _ _ _ e1, _, rfl, ?_, e3, e4, ?_, ?_, ?_⟩
  · simp; omega
  · rw [splice_length hlen]; exact e5
  · rw [splice_length hlen]; exact e6
  · intro i hi
    rw [splice_length hlen] at hi
    have hs := splice_get hlen i
    have hs' := splice_get (cs := c.toList) (vs := vs') (off := L.base + off) (by simp; omega) (L.base + i)
    simp only [splice, List.append_assoc] at hs'
    simp only [List.getElem?_toArray, List.append_assoc, hs']
    by_cases q : off ≤ i ∧ i < off + vs.length
    · rw [if_pos q] at hs
      rw [if_pos (by omega)]
      have e : L.base + i - (L.base + off) = i - off := by omega
      rw [e]
      have hb : i - off < vs'.length := by omega
      refine ⟨vs'[i - off], by simp [hb], ?_⟩
      have ha : i - off < vs.length := by omega
      have := List.getElem_of_getElem? (hs.trans (List.getElem?_eq_getElem ha))
      obtain ⟨_, hh⟩ := this
      rw [hh]
      exact hv.2 _ ha hb
    · rw [if_neg q] at hs
      rw [if_neg (by omega)]
      obtain ⟨v, a1, a2⟩ := e7 i hi
      refine ⟨v, by simpa using a1, ?_⟩
      have := List.getElem_of_getElem? (hs.trans (List.getElem?_eq_getElem hi))
      obtain ⟨_, hh⟩ := this
      rw [hh]; exact a2

theorem snd_put {id : Nat} {o o₀ : AObj} {s : Sem Next} {y : Next} {w' : World} {v : Value} (hg : h.m.get id = some o₀)
    (hs : WF h → Rel P nG φ G w → Agree (Log.wr trk [id]) h G → ∃ L ob, φ id = some L ∧ s.run P w = .ok y w' ∧ w'.heap.size = w.heap.size ∧ (∀ b, b ≠ L.blk → w'.heap[b]? = w.heap[b]?) ∧ w'.heap[L.blk]? = some ob ∧
      w'.tape = w.tape ∧ w'.os = w.os ∧ w'.output = w.output ∧ OR P nG φ L o ob ∧ NR nG φ (.val v) y) :
    Snd P nG trk h φ G w (hput trk h id o v) s := by
  rintro x h' ℓ e hwf r a hf
  unfold hput at e
  by_cases hk : id < keyMax
  · have : Nat.blt id keyMax = true := by simpa [Nat.blt_eq] using hk
    rw [this] at e
    simp only [cond_true, Option.some.injEq, Prod.mk.injEq] at e
    obtain ⟨rfl, rfl, rfl⟩ := e
    obtain ⟨L, ob, hL, h1, h2, h3, h4, h5, h6, h7, h8, h9⟩ := hs hwf r a
    exact ⟨Log.wr_isSome _ _, φ, y, w', h1, Post.turn hk r hwf a hg hL h2 h3 h4 h5 h6 h7 h8, h9⟩
  · have : Nat.blt id keyMax = false := by
      cases q : Nat.blt id keyMax with
      | false => rfl
      | true => exact absurd (by simpa [Nat.blt_eq] using q) hk
    rw [this] at e
    simp at e

theorem setRow_post (w : World) (b : Nat) (c : Array Value) : (w.setRow b c).heap.size = w.heap.size ∧ (∀ k, k ≠ b → (w.setRow b c).heap[k]? = w.heap[k]?) ∧ (w.setRow b c).tape = w.tape ∧ (w.setRow b c).os = w.os ∧ (w.setRow b c).output = w.output :=
  ⟨by simp, fun k hk => setRow_other _ _ _ _ hk, rfl, rfl, rfl⟩

theorem snd_store {t : TypeId} {a a' v v' : Value} (ha : VR φ a a') (hv : VR φ v v') : Snd P nG trk h φ G w (hstore P trk t a v h) (unitS (Instr.storeAt t a' v')) := by
  cases ha
  case pointer id L off hφ =>
    simp only [hstore]
    cases hg : h.m.get id with
    | none => exact snd_none
    | some o =>
      cases o with
      | cells cs elem g =>
        simp only
        cases hc : ((sizeO P t).elim false (Nat.beq v.cells.toList.length)) && Nat.ble (off + v.cells.toList.length) cs.length && v.cells.toList.all Value.oneCell' with
        | false => exact snd_none
        | true =>
          simp only [cond_true]
          simp only [Bool.and_eq_true] at hc
          obtain ⟨⟨c1, c2⟩, c3⟩ := hc
          have hlen : off + v.cells.toList.length ≤ cs.length := Nat.le_of_ble_eq_true c2
          obtain ⟨n, hn⟩ : ∃ n, sizeO P t = some n := by cases q : sizeO P t <;> simp_all
          have hn' : v.cells.toList.length = n := by rw [hn] at c1; exact Nat.eq_of_beq_eq_true c1
          have hl := hv.cells
          by_cases hR : WF h ∧ Rel P nG φ G w ∧ Agree (Log.wr trk [id]) h G
          · obtain ⟨hwf, r, a⟩ := hR
            obtain ⟨c', e1, e2, e3⟩ := run_splice r (a.wr_get hwf hg) hφ hlen hl (fun x hx => List.all_eq_true.1 c3 x hx)
            refine snd_put (y := .skip) (w' := w.setRow L.blk c') hg fun _ _ _ => ?_
            obtain ⟨p1, p2, p3, p4, p5⟩ := setRow_post w L.blk c'
            refine ⟨L, _, hφ, ?_, p1, p2, e2, p3, p4, p5, e3, .inr ⟨rfl, rfl⟩⟩
            have : v'.cells.size = n := by have := hl.1; simp at this hn'; omega
            simp [unitS, Instr.storeAt, Instr.sureAddr, storeVar, run_sizeOf hn, this, e1]
          · intro x h' ℓ e hwf r a hf
            exfalso
            refine hR ⟨hwf, r, ?_⟩
            unfold hput at e
            cases q : Nat.blt id keyMax <;> simp [q] at e
            obtain ⟨_, _, rfl⟩ := e
            exact a
      | map => exact snd_none
      | loop => exact snd_none
      | deferred => exact snd_none
  all_goals exact snd_none

theorem snd_alloc {t : TypeId} : Snd P nG trk h φ G w (match zeroO P t with | some z => hnew trk h (.cells z.cells.toList t false) fun id => .pointer (some ⟨id, 0, none⟩) | none => none) (valS (Instr.alloc t true (.tuple #[]))) := by
  cases hz : zeroO P t with
  | none => exact snd_none
  | some z =>
    have hl : LR φ z.cells.toList z.cells.toList := (zero_flat hz).cells
    refine snd_new (L := ⟨w.heap.size, 0, z.cells.toList.length, P.cellsOf t, false⟩) (ob := .cells z.cells t) (v' := .pointer (some ⟨w.heap.size, 0, none⟩)) ?_ rfl ?_ ?_
    · simp [Instr.alloc, run_zero hz, newVar, newRow]
    · intro ψ hle _
      have := OR_new (P := P) (nG := nG) (elem := t) (b := w.heap.size) (hl.mono hle)
      simpa using this
    · intro ψ hψ
      exact .pointer 0 hψ

theorem snd_box {t : TypeId} {v v' : Value} (hv : VR φ v v') : Snd P nG trk h φ G w (hnew trk h (.cells v.cells.toList t false) fun id => .pointer (some ⟨id, 0, none⟩)) (valS (Instr.box t v')) := by
  have hl := hv.cells
  refine snd_new (L := ⟨w.heap.size, 0, v'.cells.toList.length, P.cellsOf t, false⟩) (ob := .cells v'.cells t) (v' := .pointer (some ⟨w.heap.size, 0, none⟩)) ?_ rfl ?_ ?_
  · simp [Instr.box, newVar, newRow]
  · intro ψ hle _
    have := OR_new (P := P) (nG := nG) (elem := t) (b := w.heap.size) (hl.mono hle)
    simpa using this
  · intro ψ hψ
    exact .pointer 0 hψ

end
end Go.Proofs.YthiaocbikmiciaaGreatDoor.H
namespace Go.Proofs.YthiaocbikmiciaaGreatDoor.H
section
variable {P : Program} {nG : Nat} {trk : Bool} {h : HS} {φ : Phi} {G : AMap} {w : World}

theorem LR.of_array {xs ys : Array Value} (h1 : xs.size = ys.size) (h2 : ∀ i (a : i < xs.size) (b : i < ys.size), VR φ xs[i] ys[i]) : LR φ xs.toList ys.toList :=
  ⟨by simpa using h1, fun i a b => by simpa using h2 i (by simpa using a) (by simpa using b)⟩

theorem arr_get? {xs ys : Array Value} (hl : LR φ xs.toList ys.toList) (i : Nat) {v : Value} (hv : xs[i]? = some v) : ∃ v', ys[i]? = some v' ∧ VR φ v v' := by
  obtain ⟨v', e1, e2⟩ := hl.get? i (v := v) (by simpa using hv)
  exact ⟨v', by simpa using e1, e2⟩

theorem VR.agg_inv {xs : Array Value} {v : Value} (h : VR φ (.agg xs) v) : ∃ ys, v = .agg ys ∧ LR φ xs.toList ys.toList := by
  cases h
  case agg ys h1 h2 => exact ⟨ys, rfl, LR.of_array h1 h2⟩
theorem VR.tuple_inv {xs : Array Value} {v : Value} (h : VR φ (.tuple xs) v) : ∃ ys, v = .tuple ys ∧ LR φ xs.toList ys.toList := by
  cases h
  case tuple ys h1 h2 => exact ⟨ys, rfl, LR.of_array h1 h2⟩

theorem agg_of_lists {xs ys : Array Value} (h : LR φ xs.toList ys.toList) : VR φ (.agg xs) (.agg ys) := by
  have := VR.of_LR h
  simpa using this
theorem tuple_of_lists {xs ys : Array Value} (h : LR φ xs.toList ys.toList) : VR φ (.tuple xs) (.tuple ys) := by
  have := VR.tuple_of_LR h
  simpa using this

theorem sizeO_info {t : TypeId} {n : Nat} (h : sizeO P t = some n) : (P.info? t).isSome = true := by
  unfold sizeO at h; cases q : P.info? t <;> simp_all
theorem under_of_info {t : TypeId} (h : aggB P t = false) (hu : (P.underlying t).isSome = true) : (isAgg t).run P w = .ok false w := by
  rw [run_isAgg hu, h]

/-- 'part', in both. -/
theorem run_part {t : TypeId} {cs cs' : Array Value} {off : Nat} {v : Value} (hl : LR φ cs.toList cs'.toList) (hp : hpart P t cs off = some v) : ∃ v', (part t cs' off).run P w = .ok v' w ∧ VR φ v v' := by
  unfold hpart at hp
  cases ha : aggB P t with
  | true =>
    rw [ha] at hp
    simp only [cond_true] at hp
    cases hn : sizeO P t with
    | none => simp [hn] at hp
    | some n =>
      simp only [hn, Option.elim_some, Option.some.injEq] at hp
      subst hp
      refine ⟨.agg (cs'.extract off (off + n)), ?_, agg_of_lists ?_⟩
      · simp [part, run_isAgg (agg_under ha), ha, run_sizeOf hn]
      · have := (hl.drop off).take n
        simpa [Array.toList_extract, List.extract_eq_take_drop] using this
  | false =>
    rw [ha] at hp
    simp only [cond_false] at hp
    cases hu : P.underlying t with
    | none => simp [hu] at hp
    | some d =>
      simp only [hu] at hp
      obtain ⟨v', e1, e2⟩ := arr_get? hl off hp
      exact ⟨v', by simp [part, run_isAgg (P := P) (t := t) (by simp [hu]), ha, e1], e2⟩

theorem fields_under {t : TypeId} {fs : Array Field} (h : fieldsO P t = some fs) : P.underlying t = some (.struct fs) := by
  unfold fieldsO at h
  cases q : P.underlying t with
  | none => simp [q] at h
  | some d => cases d <;> simp [q] at h; rw [h]
theorem arr_under {t : TypeId} {n : Nat} {e : TypeId} (h : arrO P t = some (n, e)) : P.underlying t = some (.array n e) := by
  unfold arrO at h
  cases q : P.underlying t with
  | none => simp [q] at h
  | some d => cases d <;> simp [q] at h; rw [h.1, h.2]
theorem slc_under {t e : TypeId} (h : slcO P t = some e) : P.underlying t = some (.slice e) := by
  unfold slcO at h
  cases q : P.underlying t with
  | none => simp [q] at h
  | some d => cases d <;> simp [q] at h; rw [h]

theorem snd_field {t : TypeId} {x x' : Value} {f : Nat} (hx : VR φ x x') : Snd P nG trk h φ G w (retO trk h (hfield P t x f)) (valS (Instr.field t x' f)) := by
  refine snd_retV fun u e _ => ?_
  unfold hfield at e
  cases hf : (fieldsO P t).bind (·[f]?) with
  | none => simp [hf] at e
  | some fl =>
    obtain ⟨fs, h1, h2⟩ := Option.bind_eq_some_iff.1 hf
    rw [hf] at e
    cases x <;> try (cases e; done)
    obtain ⟨ys, rfl, hl⟩ := hx.agg_inv
    simp only at e
    obtain ⟨u', e1, e2⟩ := run_part (w := w) hl e
    exact ⟨u', by simp [Instr.field, run_underlying (fields_under h1), h2, asAgg, e1], e2⟩

theorem snd_fieldAddr {t : TypeId} {x x' : Value} {f : Nat} (hx : VR φ x x') : Snd P nG trk h φ G w (retO trk h (hfieldAddr P t x f)) (valS (Instr.fieldAt t x' f)) := by
  refine snd_retV fun u e _ => ?_
  unfold hfieldAddr at e
  cases hf : (fieldsO P t).bind (·[f]?) with
  | none => simp [hf] at e
  | some fl =>
    obtain ⟨fs, h1, h2⟩ := Option.bind_eq_some_iff.1 hf
    rw [hf] at e
    cases hx <;> try (cases e; done)
    rename_i id L off hφ
    simp only at e
    cases hn : sizeO P fl.type with
    | none => simp [hn] at e
    | some n =>
      simp only [hn, Option.elim_some] at e
      cases hb : Nat.blt 0 n with
      | false => simp [hb] at e
      | true =>
        simp only [hb, cond_true, Option.some.injEq] at e
        subst e
        have hpos : n ≠ 0 := by have : 0 < n := by simpa [Nat.blt_eq] using hb
                                omega
        refine ⟨.pointer (some ⟨L.blk, L.base + (off + fl.offset), none⟩), ?_, .pointer _ hφ⟩
        simp [Instr.fieldAt, run_underlying (fields_under h1), h2, Instr.sureAddr, fieldPlace, run_sizeOf hn, hpos, add_none, Nat.add_assoc]

theorem snd_extract {x x' : Value} {i : Nat} (hx : VR φ x x') : Snd P nG trk h φ G w (retO trk h (hextract x i)) (valS (Instr.extract x' i)) := by
  refine snd_retV fun u e _ => ?_
  unfold hextract at e
  cases x <;> try (cases e; done)
  obtain ⟨ys, rfl, hl⟩ := hx.tuple_inv
  simp only at e
  obtain ⟨u', e1, e2⟩ := arr_get? hl i e
  exact ⟨u', by simp [Instr.extract, e1], e2⟩

theorem snd_index {t : TypeId} {x x' i i' : Value} (hx : VR φ x x') (hi : VR φ i i') : Snd P nG trk h φ G w (retO trk h (hindex P t x i)) (valS (Instr.index t x' i')) := by
  refine snd_retV fun u e _ => ?_
  unfold hindex at e
  cases hi <;> try (cases e; done)
  rename_i k n
  cases n with
  | negSucc n => simp at e
  | ofNat n =>
    cases x <;> try (cases e; done)
    obtain ⟨ys, rfl, hl⟩ := hx.agg_inv
    cases ha : arrO P t with
    | none => simp [ha] at e
    | some p =>
      obtain ⟨len, el⟩ := p
      simp only [ha] at e
      cases hn : sizeO P el with
      | none => simp [hn] at e
      | some m =>
        simp only [hn] at e
        cases hb : Nat.blt n len with
        | false => simp [hb] at e
        | true =>
          simp only [hb, cond_true] at e
          have hlt : n < len := by simpa [Nat.blt_eq] using hb
          obtain ⟨u', e1, e2⟩ := run_part (w := w) hl e
          refine ⟨u', ?_, e2⟩
          have h1 : (0 : Int) ≤ Int.ofNat n := Int.natCast_nonneg n
          have h2 : Int.ofNat n < (len : Int) := by simpa using hlt
          simp [Instr.index, asIntOf, run_underlying (arr_under ha), run_sizeOf hn, hlt, e1]

theorem snd_indexAddr {t : TypeId} {x x' i i' : Value} (hx : VR φ x x') (hi : VR φ i i') : Snd P nG trk h φ G w (retO trk h (hindexAddr P t x i)) (valS (Instr.indexAt t x' i')) := by
  refine snd_retV fun u e _ => ?_
  unfold hindexAddr at e
  cases hi <;> try (cases e; done)
  rename_i k n
  cases n with
  | negSucc n => simp at e
  | ofNat n =>
    cases hx <;> try (cases e; done)
    all_goals simp only at e
    case pointer id L off hφ =>
      cases ha : arrO P t with
      | none => simp [ha] at e
      | some p =>
        obtain ⟨len, el⟩ := p
        simp only [ha] at e
        cases hn : sizeO P el with
        | none => simp [hn] at e
        | some m =>
          simp only [hn] at e
          cases hb : Nat.blt n len with
          | false => simp [hb] at e
          | true =>
            simp only [hb, cond_true, Option.some.injEq] at e
            subst e
            have hlt : n < len := by simpa [Nat.blt_eq] using hb
            refine ⟨.pointer (some ⟨L.blk, L.base + (off + n * m), none⟩), ?_, .pointer _ hφ⟩
            simp [Instr.indexAt, asIntOf, run_underlying (arr_under ha), Instr.sureAddr, run_sizeOf hn, hlt, add_none, Nat.add_assoc]
    case slice id L off l c hφ hg =>
      cases hn : (slcO P t).bind (sizeO P) with
      | none => simp [hn] at e
      | some m =>
        obtain ⟨el, h1, h2⟩ := Option.bind_eq_some_iff.1 hn
        simp only [hn] at e
        cases hb : Nat.blt n l with
        | false => simp [hb] at e
        | true =>
          simp only [hb, cond_true, Option.some.injEq] at e
          subst e
          have hlt : n < l := by simpa [Nat.blt_eq] using hb
          refine ⟨.pointer (some ⟨L.blk, L.base + (off + n * m), none⟩), ?_, .pointer _ hφ⟩
          simp [Instr.indexAt, asIntOf, run_underlying (slc_under h1), run_sizeOf h2, hlt, add_none, Nat.add_assoc]
    case sliceG id L off off' l c c' hφ hg q1 q2 q3 q4 =>
      cases hn : (slcO P t).bind (sizeO P) with
      | none => simp [hn] at e
      | some m =>
        obtain ⟨el, h1, h2⟩ := Option.bind_eq_some_iff.1 hn
        simp only [hn] at e
        cases hb : Nat.blt n l with
        | false => simp [hb] at e
        | true =>
          simp only [hb, cond_true, Option.some.injEq] at e
          subst e
          have hlt : n < l := by simpa [Nat.blt_eq] using hb
          have := q4 (by omega)
          subst this
          refine ⟨.pointer (some ⟨L.blk, L.base + (off + n * m), none⟩), ?_, .pointer _ hφ⟩
          simp [Instr.indexAt, asIntOf, run_underlying (slc_under h1), run_sizeOf h2, hlt, add_none, Nat.add_assoc]

end
end Go.Proofs.YthiaocbikmiciaaGreatDoor.H
