/- The machine that is run by the kernel, part 2: no claim of its own. -/
import Derived.Test.YthiaocbikmiciaaGreatDoorH1
import Derived.Great.FillDense
import Derived.IntWalk
namespace Go.Proofs.YthiaocbikmiciaaGreatDoor.H
section
variable {P : Program} {nG : Nat} {trk : Bool} {h : HS} {φ : Phi} {G : AMap} {w : World}

theorem set_splice (cells v : Array Value) (off : Nat) (hl : off + v.size ≤ cells.size) :
    v.zipIdx.foldl (fun cs (x : Value × Nat) => cs.setIfInBounds (off + x.2) x.1) cells = (splice cells.toList off v.toList).toArray := by
  obtain ⟨h1, h2⟩ := Great.foldl_set off v.toList 0 cells
  rw [← Array.foldl_toList, Array.toList_zipIdx]
  apply Array.ext'
  apply List.ext_getElem?
  intro k
  have := h2 k
  simp only [splice_get (cs := cells.toList) (vs := v.toList) (off := off) (by simpa using hl) k, Array.length_toList] at this ⊢
  rw [Array.getElem?_toList, this]
  by_cases c : off ≤ k ∧ k < off + v.size
  · rw [if_pos (by omega), if_pos c]; simp
  · rw [if_neg (by omega), if_neg c]; simp

def PR (φ : Phi) (ps ps' : List (Nat × Value)) : Prop := ps.map (·.1) = ps'.map (·.1) ∧ LR φ (ps.map (·.2)) (ps'.map (·.2))

theorem PR.cons_inv {i : Nat} {v : Value} {rest ps' : List (Nat × Value)} (h : PR φ ((i, v) :: rest) ps') : ∃ v' rest', ps' = (i, v') :: rest' ∧ VR φ v v' ∧ PR φ rest rest' := by
  obtain ⟨h1, h2, h3⟩ := h
  cases ps' with
  | nil => simp at h1
  | cons p rest' =>
    obtain ⟨i', v'⟩ := p
    simp only [List.map_cons, List.cons.injEq] at h1
    refine ⟨v', rest', by rw [h1.1], h3 0 (by simp) (by simp), h1.2, by simpa using h2, fun i a b => ?_⟩
    have := h3 (i + 1) (by simpa using a) (by simpa using b)
    simpa using this

theorem splice_rel {cs cs' vs vs' : List Value} {off : Nat} (h : LR φ cs cs') (k : LR φ vs vs') : LR φ (splice cs off vs) (splice cs' off vs') := by
  unfold splice
  rw [← k.1]
  exact ((h.take off).append k).append (h.drop _)

theorem run_fill (place : Nat → Option (Nat × Nat)) : ∀ (ps ps' : List (Nat × Value)) (cs cs' l : List Value), LR φ cs cs' → PR φ ps ps' → fillL place cs ps = some l →
    ∃ l', Instr.fill place cs'.toArray ps' = some l'.toArray ∧ LR φ l l'
  | [], ps', cs, cs', l, hc, hp, hf => by
    have : ps' = [] := by have := hp.1; simpa using this.symm
    subst this
    simp only [fillL, Option.some.injEq] at hf
    subst hf
    exact ⟨cs', rfl, hc⟩
  | (i, v) :: rest, ps', cs, cs', l, hc, hp, hf => by
    obtain ⟨v', rest', rfl, hv, hr⟩ := hp.cons_inv
    simp only [fillL] at hf
    cases hpl : place i with
    | none => simp [hpl] at hf
    | some q =>
      obtain ⟨off, size⟩ := q
      simp only [hpl] at hf
      cases hb : v.cells.toList.length.beq size && Nat.ble (off + v.cells.toList.length) cs.length with
      | false => rw [hb] at hf; cases hf
      | true =>
        rw [hb] at hf
        simp only [cond_true] at hf
        simp only [Bool.and_eq_true] at hb
        have e1 : v.cells.toList.length = size := Nat.eq_of_beq_eq_true hb.1
        have e2 : off + v.cells.toList.length ≤ cs.length := Nat.le_of_ble_eq_true hb.2
        have hl := hv.cells
        have e3 : v'.cells.size = size := by have := hl.1; simp at this e1; omega
        have e4 : off + v'.cells.size ≤ cs'.length := by have := hl.1; have := hc.1; simp at *; omega
        obtain ⟨l', k1, k2⟩ := run_fill place rest rest' (splice cs off v.cells.toList) (splice cs' off v'.cells.toList) l (splice_rel hc hl) hr hf
        refine ⟨l', ?_, k2⟩
        unfold Instr.fill
        simp only [hpl]
        rw [if_neg (by simp; omega), set_splice _ _ _ (by simpa using e4)]
        simpa using k1

theorem mapM_some {α β : Type} (f : α → Sem β) (g : α → β) : ∀ (l : List α), (∀ x ∈ l, (f x).run P w = .ok (g x) w) → (l.mapM f).run P w = .ok (l.map g) w
  | [], _ => by simp
  | x :: l, hx => by
    simp [hx x (by simp), mapM_some f g l (fun y hy => hx y (by simp [hy]))]

theorem run_places {fs : Array Field} (hall : fs.toList.all (fun f => (sizeO P f.type).isSome) = true) :
    (fs.mapM fun f => Prod.mk f.offset <$> sizeOf f.type : Sem (Array (Nat × Nat))).run P w = .ok ((fs.toList.map fun f => (f.offset, (sizeO P f.type).getD 0)).toArray) w := by
  rw [Array.mapM_eq_mapM_toList]
  have := mapM_some (P := P) (w := w) (fun f : Field => (Prod.mk f.offset <$> sizeOf f.type : Sem (Nat × Nat))) (fun f => (f.offset, (sizeO P f.type).getD 0)) fs.toList (fun f hf => by
    have := List.all_eq_true.1 hall f hf
    cases q : sizeO P f.type with
    | none => simp [q] at this
    | some n => simp [run_sizeOf q])
  rw [Sem.run_map, this]
  rfl

theorem places_eq {fs : Array Field} (hall : fs.toList.all (fun f => (sizeO P f.type).isSome) = true) : (fun x => Option.map (fun f => (f.offset, (sizeO P f.type).getD 0)) fs[x]?) = placesO P fs := by
  funext i
  unfold placesO
  cases q : fs[i]? with
  | none => rfl
  | some f =>
    have hm : f ∈ fs.toList := by
      have := Array.mem_of_getElem? q
      simpa using this
    have := List.all_eq_true.1 hall f hm
    cases q2 : sizeO P f.type with
    | none => simp [q2] at this
    | some n => simp [q2]

theorem snd_build {t : TypeId} {ps ps' : Array (Nat × Value)} (hp : PR φ ps.toList ps'.toList) : Snd P nG trk h φ G w (retO trk h (hbuild P t ps.toList)) (valS (Instr.build t ps')) := by
  refine snd_retV fun u e _ => ?_
  unfold hbuild at e
  cases hz : zeroO P t with
  | none => simp [hz] at e
  | some z =>
    simp only [hz] at e
    have hzr : LR φ z.cells.toList z.cells.toList := (zero_flat hz).cells
    cases hf : fieldsO P t with
    | some fs =>
      simp only [hf] at e
      cases ha : fs.toList.all (fun f => (sizeO P f.type).isSome) with
      | false => simp [ha] at e
      | true =>
        simp only [ha, cond_true, Option.map_eq_some_iff] at e
        obtain ⟨l, e1, rfl⟩ := e
        obtain ⟨l', k1, k2⟩ := run_fill (placesO P fs) ps.toList ps'.toList _ _ l hzr hp e1
        refine ⟨.agg l'.toArray, ?_, VR.of_LR k2⟩
        have k1' : Instr.fill (placesO P fs) z.cells ps'.toList = some l'.toArray := by simpa using k1
        simp [Instr.build, run_zero hz, run_underlying (fields_under hf), run_places ha, places_eq ha, k1']
    | none =>
      simp only [hf] at e
      cases ha : arrO P t with
      | none => simp [ha] at e
      | some q =>
        obtain ⟨len, el⟩ := q
        simp only [ha] at e
        cases hn : sizeO P el with
        | none => simp [hn] at e
        | some n =>
          simp only [hn, Option.elim_some, Option.map_eq_some_iff] at e
          obtain ⟨l, e1, rfl⟩ := e
          obtain ⟨l', k1, k2⟩ := run_fill (fun i => some (i * n, n)) ps.toList ps'.toList _ _ l hzr hp e1
          refine ⟨.agg l'.toArray, ?_, VR.of_LR k2⟩
          have k1' : Instr.fill (fun i => some (i * n, n)) z.cells ps'.toList = some l'.toArray := by simpa using k1
          simp [Instr.build, run_zero hz, run_underlying (arr_under ha), run_sizeOf hn, k1']

theorem zerosL_length (z : List Value) : ∀ n, (zerosL z n).length = n * z.length
  | 0 => by simp [zerosL]
  | n + 1 => by simp [zerosL, zerosL_length z n, Nat.add_mul, Nat.add_comm]
theorem zerosL_rel {z z' : List Value} (hz : LR φ z z') : ∀ n, LR φ (zerosL z n) (zerosL z' n)
  | 0 => LR.nil
  | n + 1 => hz.append (zerosL_rel hz n)

theorem zerosL_get (z : List Value) : ∀ (n i : Nat), i < n * z.length → (zerosL z n)[i]? = z[i % z.length]?
  | 0, i, h => by simp at h
  | n + 1, i, h => by
    simp only [zerosL]
    by_cases c : i < z.length
    · rw [List.getElem?_append_left c, Nat.mod_eq_of_lt c]
    · rw [List.getElem?_append_right (by omega), zerosL_get z n _ (by rw [Nat.add_mul] at h; omega)]
      congr 1
      conv => rhs; rw [Nat.mod_eq_sub_mod (by omega)]

theorem range_zeros (z : Array Value) (n : Nat) : (Array.range (n * z.size)).map (fun i => z[i % z.size]!) = (zerosL z.toList n).toArray := by
  apply Array.ext'
  apply List.ext_getElem?
  intro i
  simp only [Array.toList_map, Array.toList_range, List.getElem?_map]
  by_cases c : i < n * z.size
  · have hp : 0 < z.size := by
      rcases Nat.eq_zero_or_pos z.size with q | q
      · rw [q] at c; simp at c
      · exact q
    rw [zerosL_get _ _ _ (by simpa using c)]
    have hm : i % z.size < z.size := Nat.mod_lt _ hp
    simp [c, hm]
  · rw [List.getElem?_eq_none (by simp; omega), List.getElem?_eq_none (by rw [zerosL_length]; simp; omega)]
    rfl

theorem snd_buildSlice {t : TypeId} {len : Nat} {ps ps' : Array (Nat × Value)} (hp : PR φ ps.toList ps'.toList) : Snd P nG trk h φ G w (hbuildSlice P trk t len ps.toList h) (valS (Instr.buildSlice t len ps')) := by
  unfold hbuildSlice
  cases hs : slcO P t with
  | none => exact snd_none
  | some e =>
    simp only
    cases hn : sizeO P e with
    | none => exact snd_none
    | some n =>
      cases hz : zeroO P e with
      | none => exact snd_none
      | some z =>
        simp only
        cases hb : Nat.ble (len * n) 16777216 && z.cells.toList.length.beq n with
        | false => exact snd_none
        | true =>
          simp only [cond_true]
          simp only [Bool.and_eq_true] at hb
          have b1 : len * n ≤ 16777216 := Nat.le_of_ble_eq_true hb.1
          have b2 : z.cells.size = n := by have := Nat.eq_of_beq_eq_true hb.2; simpa using this
          cases hf : fillL (fun i => some (i * n, n)) (zerosL z.cells.toList len) ps.toList with
          | none => exact snd_none
          | some l =>
            simp only
            have hzr : LR φ (zerosL z.cells.toList len) (zerosL z.cells.toList len) := zerosL_rel (zero_flat hz).cells len
            obtain ⟨l', k1, k2⟩ := run_fill (fun i => some (i * n, n)) ps.toList ps'.toList _ _ l hzr hp hf
            refine snd_new (L := ⟨w.heap.size, 0, l'.length, P.cellsOf e, false⟩) (ob := .cells l'.toArray e) (v' := .slice (some ⟨w.heap.size, 0, none⟩) len len) ?_ rfl ?_ ?_
            · have hr := range_zeros z.cells len
              rw [b2] at hr
              by_cases q : len * n = 0
              · have hnil : zerosL z.cells.toList len = [] := by
                  apply List.eq_nil_of_length_eq_zero
                  rw [zerosL_length]; simp [b2, q]
                rw [hnil] at k1
                have hr0 : Array.map (fun _ : Nat => (default : Value)) (Array.range 0) = #[] := by simp
                simp [Instr.buildSlice, run_underlying (slc_under hs), run_sizeOf hn, q, newRow, hr0, k1]
              · have hgt : ¬ (16777216 < len * n) := by omega
                simp [Instr.buildSlice, run_underlying (slc_under hs), run_sizeOf hn, q, hgt, run_zero hz, b2, hr, k1, newRow]
            · intro ψ hle _
              exact OR_new (k2.mono hle)
            · intro ψ hψ
              have := VR.slice (φ := ψ) (id := h.next) 0 len len hψ rfl
              simpa using this

theorem wrap_small (x : Nat) (hx : x ≤ 9223372036854775807) : IntKind.i64.wrap (x : Int) = (x : Int) :=
  IntWalk.i64_in _ ⟨by omega, by omega⟩

theorem snd_makeSlice {t : TypeId} {l l' c c' : Value} (hl : VR φ l l') (hc : VR φ c c') : Snd P nG trk h φ G w (hmakeSlice P trk t l c h) (valS (Instr.makeSlice t l' c')) := by
  unfold hmakeSlice
  cases hs : slcO P t with
  | none => exact snd_none
  | some e =>
    cases hl <;> try exact snd_none
    rename_i k n
    cases n with
    | negSucc n => exact snd_none
    | ofNat n =>
      cases hc <;> try exact snd_none
      rename_i k2 m
      cases m with
      | negSucc m => exact snd_none
      | ofNat m =>
        simp only
        cases hi : P.info? e with
        | none => exact snd_none
        | some i =>
          cases hz : zeroO P e with
          | none => exact snd_none
          | some z =>
            simp only
            cases hb : Nat.ble n m && Nat.ble (i.bytes * m) 281474976710656 && Nat.ble m 281474976710656 && z.cells.toList.length.beq i.size with
            | false => exact snd_none
            | true =>
              simp only [cond_true]
              simp only [Bool.and_eq_true] at hb
              obtain ⟨⟨⟨b1, b2⟩, b3⟩, b4⟩ := hb
              have c1 : n ≤ m := Nat.le_of_ble_eq_true b1
              have c2 : i.bytes * m ≤ 281474976710656 := Nat.le_of_ble_eq_true b2
              have c3 : m ≤ 281474976710656 := Nat.le_of_ble_eq_true b3
              have c4 : z.cells.size = i.size := by have := Nat.eq_of_beq_eq_true b4; simpa using this
              have hzr : LR φ (zerosL z.cells.toList m) (zerosL z.cells.toList m) := zerosL_rel (zero_flat hz).cells m
              have wn : IntKind.i64.wrap (n : Int) = (n : Int) := wrap_small n (by omega)
              have wm : IntKind.i64.wrap (m : Int) = (m : Int) := wrap_small m (by omega)
              refine snd_new (L := ⟨w.heap.size, 0, (zerosL z.cells.toList m).length, P.cellsOf e, false⟩) (ob := .cells (zerosL z.cells.toList m).toArray e) (v' := .slice (some ⟨w.heap.size, 0, none⟩) n m) ?_ rfl ?_ ?_
              · have hr := range_zeros z.cells m
                rw [c4] at hr
                have ht1 : ¬ ((i.bytes : Int) * (m : Int) > 281474976710656) := by
                  have : ((i.bytes * m : Nat) : Int) ≤ 281474976710656 := by omega
                  rw [Int.natCast_mul] at this; omega
                have hsz : sizeO P e = some i.size := by simp [sizeO, hi]
                have ht2 : ¬ ((m : Int) < 0) := by omega
                have ht3 : ¬ ((n : Int) < 0) := by omega
                have ht4 : ¬ ((m : Int) < (n : Int)) := by omega
                by_cases q : m * i.size = 0
                · have hnil : zerosL z.cells.toList m = [] := by
                    apply List.eq_nil_of_length_eq_zero
                    rw [zerosL_length]; simp [c4, q]
                  have hr0 : Array.map (fun _ : Nat => (default : Value)) (Array.range 0) = #[] := by simp
                  simp [Instr.makeSlice, run_underlying (slc_under hs), asInt, asIntOf, typeInfo, hi, wn, wm, run_sizeOf hsz, ht1, ht2, ht3, ht4, q, newRow, hnil, hr0]
                · simp [Instr.makeSlice, run_underlying (slc_under hs), asInt, asIntOf, typeInfo, hi, wn, wm, run_sizeOf hsz, ht1, ht2, ht3, ht4, q, newRow, run_zero hz, c4, hr]
              · intro ψ hle _
                exact OR_new (hzr.mono hle)
              · intro ψ hψ
                have := VR.slice (φ := ψ) (id := h.next) 0 n m hψ rfl
                simpa using this

end
end Go.Proofs.YthiaocbikmiciaaGreatDoor.H
namespace Go.Proofs.YthiaocbikmiciaaGreatDoor.H
section
variable {P : Program} {nG : Nat} {trk : Bool} {h : HS} {φ : Phi} {G : AMap} {w : World}

/-- Optional operands. -/
def XR (φ : Phi) : Option Value → Option Value → Prop
  | none, x => x = none
  | some v, x => ∃ v', x = some v' ∧ VR φ v v'

theorem XR.isSome {x x' : Option Value} (h : XR φ x x') : x'.isSome = x.isSome := by
  cases x with
  | none => simp only [XR] at h; subst h; rfl
  | some v => obtain ⟨v', rfl, _⟩ := h; rfl

theorem bnd_some {x x' : Option Value} {d most k : Nat} (hx : XR φ x x') (hb : bnd x d most = some k) :
    (x = none ∧ x' = none ∧ k = d) ∨ ∃ kd, x = some (.int kd (Int.ofNat k)) ∧ x' = some (.int kd (Int.ofNat k)) ∧ k ≤ most := by
  cases x with
  | none => simp only [bnd, Option.some.injEq] at hb; simp only [XR] at hx; exact .inl ⟨rfl, hx, hb.symm⟩
  | some v =>
    obtain ⟨v', rfl, hv⟩ := hx
    cases hv <;> try (cases hb; done)
    rename_i kd n
    cases n with
    | negSucc n => cases hb
    | ofNat n =>
      simp only [bnd] at hb
      cases q : Nat.ble n most with
      | false => simp [q] at hb
      | true =>
        simp only [q, cond_true, Option.some.injEq] at hb
        subst hb
        exact .inr ⟨kd, rfl, rfl, Nat.le_of_ble_eq_true q⟩

theorem run_sliceBound {kd : IntKind} {k y : Nat} {code : BoundsCode} (hk : k ≤ y) : (Instr.sliceBound (.int kd (k : Int)) y code).run P w = .ok k w := by
  have h1 : ((k : Int) ≤ (y : Int)) := by omega
  simp [Instr.sliceBound, asIntOf, h1]

/-- The bounds of a slice expression. -/
theorem run_bounds {isS : Bool} {len cap cap' : Nat} {lo hi mx lo' hi' mx' : Option Value} {a b m : Nat} (hlo : XR φ lo lo') (hhi : XR φ hi hi') (hmx : XR φ mx mx') (hc : cap ≤ cap')
    (h1 : bnd mx cap cap = some m) (h2 : bnd hi len m = some b) (h3 : bnd lo 0 b = some a) (hm : mx.isNone = true ∨ hi.isSome = true) (hl : len ≤ cap) :
    ∃ m', (Instr.sliceBounds isS len cap' lo' hi' mx').run P w = .ok (a, b, m') w ∧ a ≤ b ∧ b ≤ m ∧ m ≤ cap ∧ (mx = none → m = cap ∧ m' = cap') ∧ (mx ≠ none → m' = m) := by
  have hab : a ≤ b := by
    rcases bnd_some hlo h3 with ⟨_, _, e⟩ | ⟨_, _, _, e⟩ <;> omega
  rcases bnd_some hmx h1 with ⟨rfl, rfl, e1⟩ | ⟨k1, rfl, rfl, e1⟩
  · have hbm : b ≤ m := by
      rcases bnd_some hhi h2 with ⟨_, _, e⟩ | ⟨_, _, _, e⟩ <;> omega
    refine ⟨cap', ?_, hab, hbm, by omega, fun _ => ⟨e1, rfl⟩, fun q => absurd rfl q⟩
    rcases bnd_some hhi h2 with ⟨rfl, rfl, e2⟩ | ⟨k2, rfl, rfl, e2⟩
    · rcases bnd_some hlo h3 with ⟨rfl, rfl, e3⟩ | ⟨k3, rfl, rfl, e3⟩
      · simp [Instr.sliceBounds, e2, e3]
      · subst e2
        simp [Instr.sliceBounds, run_sliceBound e3]
    · have hb' : b ≤ cap' := by omega
      rcases bnd_some hlo h3 with ⟨rfl, rfl, e3⟩ | ⟨k3, rfl, rfl, e3⟩
      · simp [Instr.sliceBounds, run_sliceBound hb', e3]
      · simp [Instr.sliceBounds, run_sliceBound hb', run_sliceBound e3]
  · have hs : hi.isSome = true := by rcases hm with hm | hm <;> simp_all
    rcases bnd_some hhi h2 with ⟨rfl, rfl, e2⟩ | ⟨k2, rfl, rfl, e2⟩
    · simp at hs
    · have hm' : m ≤ cap' := by omega
      refine ⟨m, ?_, hab, e2, e1, fun q => by simp at q, fun _ => rfl⟩
      rcases bnd_some hlo h3 with ⟨rfl, rfl, e3⟩ | ⟨k3, rfl, rfl, e3⟩
      · simp [Instr.sliceBounds, run_sliceBound hm', run_sliceBound e2, e3]
      · simp [Instr.sliceBounds, run_sliceBound hm', run_sliceBound e2, run_sliceBound e3]

theorem snd_slice {t : TypeId} {x x' : Value} {lo hi mx lo' hi' mx' : Option Value} (hx : VR φ x x') (hlo : XR φ lo lo') (hhi : XR φ hi hi') (hmx : XR φ mx mx') :
    Snd P nG trk h φ G w (hslice P trk t x lo hi mx h) (valS (Instr.sliceAt t x' lo' hi' mx')) := by
  cases hx
  case string s =>
    simp only [hslice]
    cases hu : P.underlying t with
    | none => exact snd_none
    | some d =>
      cases d <;> try exact snd_none
      cases mx with
      | some _ => exact snd_none
      | none =>
        simp only [XR] at hmx
        subst hmx
        try simp only
        cases hb : bnd hi s.size s.size with
        | none => exact snd_none
        | some b =>
          simp only
          cases ha : bnd lo 0 b with
          | none => exact snd_none
          | some a =>
            simp only
            refine snd_ret fun _ => snd_val (v' := .string (s.extract a b)) ?_ (.string _)
            obtain ⟨m', k1, k2, k3, _⟩ := run_bounds (P := P) (w := w) (isS := false) (mx := none) (mx' := none) (cap := s.size) (m := s.size) hlo hhi rfl (Nat.le_refl _) rfl hb ha (.inl rfl) (Nat.le_refl _)
            simp [Instr.sliceAt, run_underlying hu, Instr.slice, k1]
  case nilSlice l c =>
    simp only [hslice]
    cases hu : slcO P t with
    | none => exact snd_none
    | some e =>
      cases mx with
      | some _ => exact snd_none
      | none =>
        simp only [XR] at hmx
        subst hmx
        try simp only
        cases hb : bnd hi l 0 with
        | none => exact snd_none
        | some b =>
          simp only
          cases ha : bnd lo 0 b with
          | none => exact snd_none
          | some a =>
            cases hn : sizeO P e with
            | none => exact snd_none
            | some n =>
              simp only
              cases hz : l.beq 0 && c.beq 0 && a.beq 0 && b.beq 0 with
              | false => exact snd_none
              | true =>
                simp only [cond_true]
                simp only [Bool.and_eq_true] at hz
                obtain ⟨⟨⟨z1, z2⟩, z3⟩, z4⟩ := hz
                have z1 := Nat.eq_of_beq_eq_true z1
                have z2 := Nat.eq_of_beq_eq_true z2
                have z3 := Nat.eq_of_beq_eq_true z3
                have z4 := Nat.eq_of_beq_eq_true z4
                subst z1 z2 z3 z4
                refine snd_ret fun _ => snd_val (v' := .slice none 0 0) ?_ (.nilSlice _ _)
                obtain ⟨m', k1, k2, k3, k4, k5, _⟩ := run_bounds (P := P) (w := w) (isS := true) (mx := none) (mx' := none) (cap := 0) (m := 0) hlo hhi rfl (Nat.le_refl _) rfl hb ha (.inl rfl) (Nat.le_refl _)
                obtain ⟨_, rfl⟩ := k5 rfl
                simp [Instr.sliceAt, run_underlying (slc_under hu), Instr.slice, k1, run_sizeOf hn]
  case slice id L off l c hφ hg =>
    simp only [hslice]
    cases hu : slcO P t with
    | none => exact snd_none
    | some e =>
      cases hm : bnd mx c c with
      | none => exact snd_none
      | some m =>
        simp only
        cases hb : bnd hi l m with
        | none => exact snd_none
        | some b =>
          simp only
          cases ha : bnd lo 0 b with
          | none => exact snd_none
          | some a =>
            cases hn : sizeO P e with
            | none => exact snd_none
            | some n =>
              cases hget : h.m.get id with
              | none => exact snd_none
              | some o =>
                cases o <;> try exact snd_none
                rename_i cs elem g
                simp only
                cases hz : (mx.isNone || hi.isSome) && Nat.ble l c && (!g || Nat.beq (P.cellsOf elem) n) with
                | false => exact snd_none
                | true =>
                  simp only [cond_true]
                  simp only [Bool.and_eq_true, Bool.or_eq_true] at hz
                  refine snd_rd fun hwf r a' => ?_
                  obtain ⟨_, _, _, e3, _⟩ := rel_cells r (a'.rd_get (by simp) hwf hget) hφ
                  have hgf : g = false := by rw [← e3]; exact hg
                  subst hgf
                  obtain ⟨m', k1, k2, k3, k4, k5, k6⟩ := run_bounds (P := P) (w := w) (isS := true) hlo hhi hmx (Nat.le_refl c) hm hb ha hz.1.1 (Nat.le_of_ble_eq_true hz.1.2)
                  have hmm : m' = m := by
                    by_cases q : mx = none
                    · obtain ⟨a1, a2⟩ := k5 q; omega
                    · exact k6 q
                  subst hmm
                  by_cases q : m' = a
                  · subst q
                    refine snd_val (v' := .slice (some ⟨L.blk, L.base + off, none⟩) (b - m') (m' - m')) ?_ ?_
                    · simp [Instr.sliceAt, run_underlying (slc_under hu), Instr.slice, k1, run_sizeOf hn]
                    · have : (m'.beq m' && !false) = true := by simp
                      rw [this]
                      exact .slice off _ _ hφ hg
                  · refine snd_val (v' := .slice (some ⟨L.blk, L.base + (off + a * n), none⟩) (b - a) (m' - a)) ?_ ?_
                    · simp [Instr.sliceAt, run_underlying (slc_under hu), Instr.slice, k1, run_sizeOf hn, q, add_none, Nat.add_assoc]
                    · have : (m'.beq a && !false) = false := by
                        rw [Bool.and_eq_false_iff]; left
                        rw [Bool.eq_false_iff]; intro e; exact q (Nat.eq_of_beq_eq_true e)
                      rw [this]
                      exact .slice (off + a * n) _ _ hφ hg
  case sliceG id L off off' l c c' hφ hg q1 q2 q3 q4 =>
    simp only [hslice]
    cases hu : slcO P t with
    | none => exact snd_none
    | some e =>
      cases hm : bnd mx c c with
      | none => exact snd_none
      | some m =>
        simp only
        cases hb : bnd hi l m with
        | none => exact snd_none
        | some b =>
          simp only
          cases ha : bnd lo 0 b with
          | none => exact snd_none
          | some a =>
            cases hn : sizeO P e with
            | none => exact snd_none
            | some n =>
              cases hget : h.m.get id with
              | none => exact snd_none
              | some o =>
                cases o <;> try exact snd_none
                rename_i cs elem g
                simp only
                cases hz : (mx.isNone || hi.isSome) && Nat.ble l c && (!g || Nat.beq (P.cellsOf elem) n) with
                | false => exact snd_none
                | true =>
                  simp only [cond_true]
                  simp only [Bool.and_eq_true, Bool.or_eq_true] at hz
                  refine snd_rd fun hwf r a' => ?_
                  obtain ⟨_, _, _, e3, e4, _⟩ := rel_cells r (a'.rd_get (by simp) hwf hget) hφ
                  have hgf : g = true := by rw [← e3]; exact hg
                  subst hgf
                  have : (m.beq a && !true) = false := by simp
                  rw [this]
                  simp only [cond_false]
                  obtain ⟨m', k1, k2, k3, k4, k5, k6⟩ := run_bounds (P := P) (w := w) (isS := true) hlo hhi hmx q2 hm hb ha hz.1.1 (Nat.le_of_ble_eq_true hz.1.2)
                  have hne : L.esz = n := by
                    have := hz.2
                    simp only [Bool.not_true, Bool.false_eq_true, false_or] at this
                    rw [e4]; exact Nat.eq_of_beq_eq_true this
                  have hmm : m ≤ m' ∧ m' ≤ c' := by
                    by_cases q : mx = none
                    · obtain ⟨a1, a2⟩ := k5 q; omega
                    · have := k6 q; omega
                  by_cases q : m' = a
                  · refine snd_val (v' := .slice (some ⟨L.blk, off', none⟩) (b - a) (m' - a)) ?_ ?_
                    · simp [Instr.sliceAt, run_underlying (slc_under hu), Instr.slice, k1, run_sizeOf hn, q]
                    · refine .sliceG _ _ _ _ _ hφ hg (by omega) (by omega) ?_ (fun hp => by omega)
                      have : (m' - a) * L.esz = 0 := by rw [q]; simp
                      omega
                  · refine snd_val (v' := .slice (some ⟨L.blk, off' + a * n, none⟩) (b - a) (m' - a)) ?_ ?_
                    · simp [Instr.sliceAt, run_underlying (slc_under hu), Instr.slice, k1, run_sizeOf hn, q, add_none, Nat.add_assoc]
                    · refine .sliceG _ _ _ _ _ hφ hg (by omega) (by omega) ?_ (fun hp => by have := q4 (by omega); omega)
                      have hm2 : m' * n ≤ c' * n := Nat.mul_le_mul_right n hmm.2
                      have hm3 : a * n + (m' - a) * n = m' * n := by rw [← Nat.add_mul]; congr 1; omega
                      rw [hne] at q3 ⊢
                      omega
  case pointer id L off hφ =>
    simp only [hslice]
    cases hu : arrO P t with
    | none => exact snd_none
    | some p =>
      obtain ⟨len, e⟩ := p
      cases mx with
      | some _ => exact snd_none
      | none =>
        simp only [XR] at hmx
        subst hmx
        try simp only
        cases hb : bnd hi len len with
        | none => exact snd_none
        | some b =>
          simp only
          cases ha : bnd lo 0 b with
          | none => exact snd_none
          | some a =>
            cases hn : sizeO P e with
            | none => exact snd_none
            | some n =>
              cases hget : h.m.get id with
              | none => exact snd_none
              | some o =>
                cases o <;> try exact snd_none
                rename_i cs elem g
                simp only
                cases g with
                | true => exact snd_none
                | false =>
                  simp only [cond_false]
                  refine snd_rd fun hwf r a' => ?_
                  obtain ⟨_, _, _, e3, _⟩ := rel_cells r (a'.rd_get (by simp) hwf hget) hφ
                  obtain ⟨m', k1, k2, k3, k4, k5, k6⟩ := run_bounds (P := P) (w := w) (isS := false) (mx := none) (mx' := none) (cap := len) (m := len) hlo hhi rfl (Nat.le_refl _) rfl hb ha (.inl rfl) (Nat.le_refl _)
                  obtain ⟨_, rfl⟩ := k5 rfl
                  by_cases q : m' = a
                  · subst q
                    refine snd_val (v' := .slice (some ⟨L.blk, L.base + off, none⟩) (b - m') (m' - m')) ?_ ?_
                    · simp [Instr.sliceAt, run_underlying (arr_under hu), Instr.sureAddr, k1, run_sizeOf hn]
                    · simp only [Nat.beq_refl, cond_true]
                      exact .slice off _ _ hφ e3
                  · refine snd_val (v' := .slice (some ⟨L.blk, L.base + (off + a * n), none⟩) (b - a) (m' - a)) ?_ ?_
                    · simp [Instr.sliceAt, run_underlying (arr_under hu), Instr.sureAddr, k1, run_sizeOf hn, q, add_none, Nat.add_assoc]
                    · have : m'.beq a = false := by
                        rw [Bool.eq_false_iff]; intro e; exact q (Nat.eq_of_beq_eq_true e)
                      rw [this]
                      exact .slice (off + a * n) _ _ hφ e3
  all_goals exact snd_none

end
end Go.Proofs.YthiaocbikmiciaaGreatDoor.H
