/- A part of the proof of one law's row. -/
import Derived.Test.YthiaocbikmiciaaGreatDoorYA
import Derived.Test.YthiaocbikmiciaaGreatDoorH10
namespace Go.Proofs.YthiaocbikmiciaaGreatDoor
open H

/-- A block is turned while others are laid. -/
theorem Post.turnUp {P : Program} {nG : Nat} {trk : Bool} {h : HS} {k : Nat} {o o₀ : AObj} {ob : Obj} {L : H.Loc} {φ : Phi} {G : AMap} {w w' : World} (hk : k < keyMax) (r : Rel P nG φ G w) (hwf : WF h)
    (a : Agree (Log.wr trk [k]) h G) (hg : h.m.get k = some o₀) (hφ : φ k = some L) (hs : w.heap.size ≤ w'.heap.size) (hw : ∀ b, b < w.heap.size → b ≠ L.blk → w'.heap[b]? = w.heap[b]?) (hb : w'.heap[L.blk]? = some ob)
    (ht : w'.tape = w.tape) (ho : w'.os = w.os) (hu : w'.output = w.output) (hO : OR P nG φ L o ob) :
    Post P nG (Log.wr trk [k]) h (h.turn k (some o)) φ G w φ w' := by
  have hG := a.wr_get hwf hg
  constructor
  · exact Le.refl _
  · intro id M h1 h2; simp [h1] at h2
  · constructor
    · intro id o' hG'
      rw [Upd_turn hk a] at hG'
      by_cases q : id = k
      · subst q
        simp only [if_true, Option.some.injEq] at hG'
        subst hG'
        exact ⟨L, ob, hφ, hb, hO⟩
      · simp only [q, if_false] at hG'
        obtain ⟨M, ob', e1, e2, e3⟩ := r.live id o' hG'
        refine ⟨M, ob', e1, ?_, e3⟩
        rw [hw _ (Array.getElem?_eq_some_iff.1 e2).1]; · exact e2
        intro e
        exact q (r.inj id k o' o₀ M L hG' hG e1 hφ e)
    · intro i j oi oj Li Lj h1 h2 h3 h4 h5
      rw [Upd_turn hk a] at h1 h2
      have gi : ∃ o, G i = some o := by
        by_cases q : i = k
        · exact ⟨o₀, q ▸ hG⟩
        · exact ⟨oi, by simpa [q] using h1⟩
      have gj : ∃ o, G j = some o := by
        by_cases q : j = k
        · exact ⟨o₀, q ▸ hG⟩
        · exact ⟨oj, by simpa [q] using h2⟩
      obtain ⟨a1, b1⟩ := gi
      obtain ⟨a2, b2⟩ := gj
      exact r.inj i j a1 a2 Li Lj b1 b2 h3 h4 h5
    · exact r.glob
  · intro b hb' hno
    exact hw b hb' (fun e => hno k o₀ L hG hφ e.symm)
  · intro id o' M h1 h2 _
    rw [Upd_turn hk a] at h1
    by_cases q : id = k
    · subst q; exact ⟨id, o₀, M, hG, h2, rfl⟩
    · simp only [q, if_false] at h1; exact ⟨id, o', M, h1, h2, rfl⟩
  · exact hs
  · exact ht
  · exact ho
  · exact hu
  · exact LogOK.turn hk
  · exact fun hw' => WF.turn hk hg hw'

/-- errors.errorType. -/
abbrev eT : Value := .iface 202 (.agg #[.pointer (some ⟨12, 69, none⟩)])

def isH : List Value → Bool
  | [.pointer (some ⟨b, o, none⟩)] => b.beq 12 && o.beq 69
  | _ => false
def isET : List Value → Bool
  | [.iface t (.agg cs)] => t.beq 202 && isH cs.toList
  | _ => false

theorem isH_eq {l : List Value} (h : isH l = true) : l = [.pointer (some ⟨12, 69, none⟩)] := by
  unfold isH at h
  split at h
  · simp only [Bool.and_eq_true] at h
    rw [Nat.eq_of_beq_eq_true h.1, Nat.eq_of_beq_eq_true h.2]
  · cases h

theorem isET_eq {l : List Value} (h : isET l = true) : l = [eT] := by
  unfold isET at h
  split at h
  · rename_i t cs
    simp only [Bool.and_eq_true] at h
    obtain rfl : t = 202 := Nat.eq_of_beq_eq_true h.1
    have := isH_eq h.2
    have : cs = #[.pointer (some ⟨12, 69, none⟩)] := by apply Array.ext'; simpa using this
    rw [this]
  · cases h

/-- Two whole numbers. -/
def two : List Value → Option (Int × Int)
  | [.int .i64 x, .int .i64 y] => some (x, y)
  | _ => none
theorem two_eq {l : List Value} {x y : Int} (h : two l = some (x, y)) : l = [.int .i64 x, .int .i64 y] := by
  unfold two at h
  split at h
  · cases h; rfl
  · cases h

/-- What errors.As comes to. -/
def asPrim (trk : Bool) (h : HS) (args : Array Value) : Option (Value × HS × Log) :=
  match args.toList with
  | [.nilIface, _] => some (.bool false, h, Log.nil trk)
  | [.iface t (.agg vs), .iface u (.pointer (some ⟨id, off, none⟩))] =>
    match two vs.toList, h.m.get 0, h.m.get id with
    | some (x, y), some (.cells l _ false), some (.cells cs e false) =>
      bif isET l && t.beq 72 && u.beq 74 && Nat.blt (off + 1) cs.length && Nat.blt id keyMax then
        some (.bool true, h.turn id (some (.cells ((cs.set off (.int .i64 x)).set (off + 1) (.int .i64 y)) e false)), (Log.rd trk [0]).app (Log.wr trk [id]))
      else none
    | _, _, _ => none
  | _ => none

def prims : Prims := fun f => bif f.beq 13 then some asPrim else none

theorem LR_two {φ : Phi} {a b : Value} {l : List Value} (h : LR φ [a, b] l) : ∃ a' b', l = [a', b'] ∧ VR φ a a' ∧ VR φ b b' := by
  match l, h.1 with
  | [a', b'], _ => exact ⟨a', b', rfl, by simpa using h.2 0 (by simp) (by simp), by simpa using h.2 1 (by simp) (by simp)⟩

theorem run_as_eq {nG : Nat} {trk : Bool} {h h' : HS} {args : Array Value} {v : Value} {ℓ : Log} (hnG : 12 < nG) (e : asPrim trk h args = some (v, h', ℓ)) : H.Good Tryz.prog nG trk (.call 13 args) h (.val v) h' ℓ := by
  intro φ G w hw hr ha hf
  unfold asPrim at e
  split at e
  · rename_i t hargs
    cases e
    refine ⟨Log.nil_isSome _, fun args' hl => ?_⟩
    rw [hargs] at hl
    obtain ⟨a', b', hargs', h1, h2⟩ := LR_two hl
    obtain rfl : args' = #[a', b'] := by apply Array.ext'; simpa using hargs'
    cases h1
    exact (as_nil b' w).mono fun ev w' ⟨he, hw'⟩ => ⟨.bool false, φ, he, by rw [hw']; exact Post.nil hr ha, VR.bool _⟩
  · rename_i t vs u id off hargs
    split at e
    · rename_i x y l el cs ee h2v hg0 hgi
      cases hb : isET l && t.beq 72 && u.beq 74 && Nat.blt (off + 1) cs.length && Nat.blt id keyMax with
      | false => rw [hb] at e; cases e
      | true =>
        rw [hb] at e
        simp only [cond_true, Option.some.injEq, Prod.mk.injEq] at e
        obtain ⟨rfl, rfl, rfl⟩ := e
        simp only [Bool.and_eq_true] at hb
        obtain ⟨⟨⟨⟨b1, b2⟩, b3⟩, b4⟩, b5⟩ := hb
        have hET := isET_eq b1
        subst hET
        obtain rfl : t = 72 := Nat.eq_of_beq_eq_true b2
        obtain rfl : u = 74 := Nat.eq_of_beq_eq_true b3
        have hlt : off + 1 < cs.length := by simpa [Nat.blt_eq] using b4
        have hk : id < keyMax := by simpa [Nat.blt_eq] using b5
        have s1 := Log.rd_isSome trk [0]
        have s2 := Log.wr_isSome trk [id]
        refine ⟨Log.app_isSome s1 s2, fun args' hl => ?_⟩
        have a1 := Agree.left s1 s2 ha
        have p1 : Post Tryz.prog nG (Log.rd trk [0]) h h φ G w φ w := Post.rd hr a1 rfl rfl rfl rfl
        have a2 := Agree.right s1 s2 p1.log ha
        rw [Upd_rd a1] at a2
        rw [hargs] at hl
        obtain ⟨a', b', hargs', h1, h2⟩ := LR_two hl
        obtain rfl : args' = #[a', b'] := by apply Array.ext'; simpa using hargs'
        obtain rfl : vs = #[.int .i64 x, .int .i64 y] := by apply Array.ext'; simpa using two_eq h2v
        -- the values
        cases h1 with
        | iface _ hv =>
        cases h2 with
        | iface _ hp =>
        rename_i v1 v2
        cases hp with
        | pointer _ hid =>
        rename_i L
        obtain ⟨w1, rfl⟩ : ∃ w1, v1 = w1 := ⟨_, rfl⟩
        have hv1 : v1 = .agg #[.int .i64 x, .int .i64 y] := VR.flat_eq 9 rfl hv
        subst hv1
        -- the variable errorType
        obtain ⟨M0, ob0, e1, e2, c0, e3, e4, e5, e6, e7, e8, e9⟩ := hr.live 0 _ (a1.rd_get (by simp) hw hg0)
        subst e3
        obtain ⟨G0, g1, g2, g3⟩ := hr.glob 0 (by omega)
        rw [e1] at g1; cases g1
        obtain ⟨v0, q1, q2⟩ := e9 0 (by simp)
        obtain ⟨G12, g4, g5, g6⟩ := hr.glob 12 hnG
        have hv0 : v0 = eT := by
          simp only [List.getElem_cons_zero] at q2
          cases q2 with
          | iface _ q3 =>
          cases q3 with
          | agg q4 q5 =>
          rename_i ys
          have := q5 0 (by simp) (by rw [← q4]; simp)
          simp only [List.getElem_toArray, List.getElem_cons_zero] at this
          have hsz : ys.size = 1 := by rw [← q4]; rfl
          match ys, hsz with
          | ⟨[z]⟩, _ =>
            simp only [List.getElem_toArray, List.getElem_cons_zero] at this
            cases this with
            | pointer _ qq =>
              rw [g4] at qq; cases qq
              rw [g5, g6]
        subst hv0
        have hg : w.cell? ⟨0, 0, none⟩ = some eT := by
          have := cell_of_heap (w := w) (b := 0) (i := 0) (by rw [← g2]; exact e2) (by rw [g3] at q1; simpa using q1)
          exact this
        -- the target
        obtain ⟨M, ob, d1, d2, c, d3, d4, d5, d6, d7, d8, d9⟩ := hr.live id _ (a2.wr_get hw hgi)
        subst d3
        rw [hid] at d1; cases d1
        obtain ⟨hbase, hsize⟩ := d8 rfl
        have hc : c.size = cs.length := by omega
        obtain ⟨o0, t0, _⟩ := d9 off (by omega)
        obtain ⟨o1, t1, _⟩ := d9 (off + 1) hlt
        rw [hbase] at t0 t1
        simp only [Nat.zero_add] at t0 t1
        have hfz : ∀ i, w.frozen? ⟨L.blk, i, none⟩ = false := fun i => by simp [World.frozen?, d2]
        have hblk : L.blk < w.heap.size := (Array.getElem?_eq_some_iff.1 d2).1
        rw [hbase]
        simp only [Nat.zero_add]
        refine (as_hit x y L.blk off o0 o1 w hg (cell_of_heap d2 t0) (cell_of_heap d2 t1) (hfz _) (hfz _)).mono fun ev w' ⟨he, hw'⟩ => ⟨.bool true, φ, he, ?_, VR.bool _⟩
        have p2 := Post.turnUp (P := Tryz.prog) (nG := nG) (trk := trk) (w' := w') (o := .cells ((cs.set off (.int .i64 x)).set (off + 1) (.int .i64 y)) ee false) (ob := .cells ((c.setIfInBounds off (.int .i64 x)).setIfInBounds (off + 1) (.int .i64 y)) ee (0, 0))
          hk hr hw a2 hgi hid (by rw [hw']; simp [World.setCell]; omega) (fun b hb1 hb2 => by
            rw [hw']
            rw [Go.RowKit.Below.heap_setCell _ _ _ _ hb2, Go.RowKit.Below.heap_setCell _ _ _ _ hb2, Go.RowKit.Below.heap_alloc _ _ _ (by simp; omega), Go.RowKit.Below.heap_alloc _ _ _ (by simp; omega), Go.RowKit.Below.heap_alloc _ _ _ (by simp; omega), Go.RowKit.Below.heap_alloc _ _ _ hb1])
          (by
            rw [hw']
            simp only [World.setCell, Array.getElem?_modify, if_true]
            rw [Go.RowKit.Below.heap_alloc _ _ _ (by simp; omega), Go.RowKit.Below.heap_alloc _ _ _ (by simp; omega), Go.RowKit.Below.heap_alloc _ _ _ (by simp; omega), Go.RowKit.Below.heap_alloc _ _ _ hblk, d2]
            rfl)
          (by rw [hw']; rfl) (by rw [hw']; rfl) (by rw [hw']; rfl)
          ⟨_, rfl, by simp; exact d4, d5, d6, by simp; omega, fun _ => ⟨hbase, by simp; exact hsize⟩, fun i hi => ?_⟩
        · have := Post.trans s1 s2 p1 (by rw [Upd_rd a1]; exact p2)
          exact this
        · simp only [List.length_set] at hi
          obtain ⟨z, z1, z2⟩ := d9 i hi
          rw [hbase] at z1
          simp only [Nat.zero_add] at z1
          rw [hbase]
          simp only [Nat.zero_add]
          by_cases c1 : i = off + 1
          · subst c1
            refine ⟨.int .i64 y, by simp [hc, hi], ?_⟩
            simp only [List.getElem_set_self]
            exact VR.int _ _
          · by_cases c2 : i = off
            · subst c2
              refine ⟨.int .i64 x, ?_, ?_⟩
              · rw [Array.getElem?_setIfInBounds_ne (by omega)]
                exact Array.getElem?_setIfInBounds_self_of_lt (by omega)
              · rw [List.getElem_set_ne (by omega), List.getElem_set_self]; exact VR.int _ _
            · refine ⟨z, ?_, ?_⟩
              · rw [Array.getElem?_setIfInBounds_ne (by omega), Array.getElem?_setIfInBounds_ne (by omega)]; exact z1
              · rw [List.getElem_set_ne (by omega), List.getElem_set_ne (by omega)]; exact z2
    · cases e
  · cases e

end Go.Proofs.YthiaocbikmiciaaGreatDoor
