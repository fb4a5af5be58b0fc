/- The machine that is run by the kernel, part 4: no claim of its own. -/
import Derived.Test.YthiaocbikmiciaaGreatDoorH3
namespace Go.Proofs.YthiaocbikmiciaaGreatDoor.H
section
variable {P : Program} {nG : Nat} {trk : Bool} {h : HS} {φ : Phi} {G : AMap} {w : World}

def byteVals (s : ByteArray) : List Value := s.data.toList.map fun b => .int .u8 b.toNat

/-- What is appended: how many, their cells, the block that is read. -/
def source (h : HS) (n : Nat) (x : Value) : Option (Nat × List Value × List Nat) :=
  match x with
  | .slice none 0 _ => some (0, [], [])
  | .slice (some ⟨id, off, none⟩) l _ =>
    match h.m.get id with
    | some (.cells cs _ _) => (sub cs off (l * n)).map fun vs => (l, vs, [id])
    | _ => none
  | .string s => bif n.beq 1 then some (s.size, byteVals s, []) else none
  | _ => none

/-- Is the second argument of 'append' a list (not 'make')? -/
def listArg (P : Program) (ts : Array TypeId) : Bool :=
  match ts[1]? with
  | none => true
  | some t => match P.underlying t with
    | some (.int _) => false
    | some _ => true
    | none => false

def smallB (need bytes : Nat) : Bool := Nat.ble ((3 * need + 1024) * bytes) 281474976710656 && Nat.blt 0 bytes && Nat.ble need 281474976710656

def happend (P : Program) (trk : Bool) (ts : Array TypeId) (s x : Value) (h : HS) : R HNext :=
  match (ts[0]?).bind (slcO P) with
  | none => none
  | some e =>
    match P.info? e, zeroO P e with
    | some i, some z =>
      bif listArg P ts && Nat.blt 0 i.size && z.cells.toList.length.beq i.size then
        match source h i.size x with
        | none => none
        | some (m, new, tch) =>
          match s with
          | .slice none 0 0 =>
            bif m.beq 0 then some (.val (.slice none 0 0), h, Log.mk trk tch [])
            else bif smallB m i.bytes && Nat.blt h.next keyMax then
              some (.val (.slice (some ⟨h.next, 0, none⟩) m m), h.grow none (.cells new e true), Log.mk trk tch [])
            else none
          | .slice (some ⟨id, off, none⟩) l c =>
            match h.m.get id with
            | some (.cells cs elem g) =>
              bif Nat.ble (l + m) c then
                bif Nat.ble (off + l * i.size + new.length) cs.length && new.all Value.oneCell' && Nat.blt id keyMax then
                  some (.val (.slice (some ⟨id, off, none⟩) (l + m) c), h.turn id (some (.cells (splice cs (off + l * i.size) new) elem g)), Log.mk trk (id :: tch) [id])
                else none
              else
                match sub cs off (l * i.size) with
                | none => none
                | some old =>
                  bif smallB (l + m) i.bytes && Nat.blt h.next keyMax && Nat.blt id keyMax && (!g || (Nat.beq (P.cellsOf elem) i.size && elem.beq e)) && new.all Value.oneCell' then
                    some (.val (.slice (some ⟨h.next, 0, none⟩) (l + m) (l + m)), h.grow (bif g then some id else none) (.cells (old ++ new) e true), Log.mk trk (id :: tch) (bif g then [id] else []))
                  else none
            | _ => none
          | _ => none
      else none
    | _, _ => none

theorem growBy_le (need : Nat) : ∀ (r c : Nat), c ≤ 3 * need + 1024 → Builtin.growBy need r c ≤ 3 * need + 1024
  | 0, c, h => h
  | r + 1, c, h => by
    simp only [Builtin.growBy]
    split
    · exact h
    · refine growBy_le need r _ ?_
      omega

theorem nextcap_le (need c : Nat) (h : c < need) : Builtin.nextslicecap need c ≤ 3 * need + 1024 := by
  unfold Builtin.nextslicecap
  split
  · omega
  · split
    · omega
    · exact growBy_le need 4 c (by omega)

theorem zeroCells_size (z : Array Value) (n : Nat) : (Builtin.zeroCells z n).size = n * z.size := by simp [Builtin.zeroCells]

/-- The cells that an append reads. -/
theorem run_source (r : Rel P nG φ G w) {n m : Nat} {x x' : Value} {new : List Value} {tch : List Nat} (hx : VR φ x x') (hs : source h n x = some (m, new, tch)) (ha : ∀ k o, k ∈ tch → h.m.get k = some o → G k = some o) :
    ∃ new', (Builtin.lenOf x').run P w = .ok m w ∧ (∀ w' : World, w'.heap = w.heap → (Builtin.firstCells n m x').run P w' = .ok new'.toArray w') ∧ LR φ new new' ∧ new.length = m * n := by
  cases hx <;> try (cases hs; done)
  case string s =>
    simp only [source] at hs
    cases q : n.beq 1 with
    | false => simp [q] at hs
    | true =>
      simp only [q, cond_true, Option.some.injEq, Prod.mk.injEq] at hs
      obtain ⟨rfl, rfl, rfl⟩ := hs
      have hn : n = 1 := Nat.eq_of_beq_eq_true q
      subst hn
      refine ⟨byteVals s, by simp [Builtin.lenOf], ?_, ⟨rfl, fun i a b => ?_⟩, ?_⟩
      · intro w' _
        simp only [Builtin.firstCells, Sem.run_pure, byteVals]
        congr 1
        apply Array.ext'
        have he : s.extract 0 s.size = s := by simp
        rw [he]
        simp
      · simp only [byteVals, List.getElem_map]
        exact .int _ _
      · simp [byteVals]
  case nilSlice l c =>
    cases l with
    | zero =>
      simp only [source, Option.some.injEq, Prod.mk.injEq] at hs
      obtain ⟨rfl, rfl, rfl⟩ := hs
      exact ⟨[], by simp [Builtin.lenOf], fun _ _ => by simp [Builtin.firstCells], LR.nil, by simp⟩
    | succ l => simp [source] at hs
  case slice id L off l c hφ hg =>
    simp only [source] at hs
    cases q : h.m.get id with
    | none => simp [q] at hs
    | some o =>
      cases o <;> simp only [q] at hs <;> try (cases hs; done)
      rename_i cs elem g
      simp only [Option.map_eq_some_iff, Prod.mk.injEq] at hs
      obtain ⟨vs, h1, h2, h3, h4⟩ := hs
      subst h2 h3 h4
      obtain ⟨l', e1, e2, e3⟩ := run_cells r (ha id _ (by simp) q) hφ h1
      exact ⟨l', by simp [Builtin.lenOf], fun w' hw' => by simp only [Builtin.firstCells]; exact e1 w' hw', e2, e3⟩
  case sliceG id L off off' l c c' hφ hg q1 q2 q3 q4 =>
    simp only [source] at hs
    cases q : h.m.get id with
    | none => simp [q] at hs
    | some o =>
      cases o <;> simp only [q] at hs <;> try (cases hs; done)
      rename_i cs elem g
      simp only [Option.map_eq_some_iff, Prod.mk.injEq] at hs
      obtain ⟨vs, h1, h2, h3, h4⟩ := hs
      subst h2 h3 h4
      by_cases hl : l = 0
      · subst hl
        obtain ⟨l', e1, e2, e3⟩ := run_cells r (ha id _ (by simp) q) hφ h1
        simp only [Nat.zero_mul] at e3
        have : vs = [] := List.eq_nil_of_length_eq_zero e3
        subst this
        refine ⟨[], by simp [Builtin.lenOf], fun _ _ => by simp [Builtin.firstCells, loadCells, loadCellsFrom], LR.nil, by simp⟩
      · have := q4 (by omega)
        subst this
        obtain ⟨l', e1, e2, e3⟩ := run_cells r (ha id _ (by simp) q) hφ h1
        exact ⟨l', by simp [Builtin.lenOf], fun w' hw' => by simp only [Builtin.firstCells]; exact e1 w' hw', e2, e3⟩


theorem listArg_cases {ts : Array TypeId} (hl : listArg P ts = true) : ts[1]? = none ∨ ∃ t d, ts[1]? = some t ∧ P.underlying t = some d ∧ (match d with | .int _ => true | _ => false) = false := by
  unfold listArg at hl
  cases h1 : ts[1]? with
  | none => exact .inl rfl
  | some t =>
    simp only [h1] at hl
    cases hu : P.underlying t with
    | none => simp [hu] at hl
    | some d =>
      simp only [hu] at hl
      refine .inr ⟨t, d, rfl, hu, ?_⟩
      cases d <;> simp_all

theorem append_one {ts : Array TypeId} {ty t e : TypeId} {base : Option Addr} {l c n : Nat} {x : Value} (h0 : ts[0]? = some t) (hs : slcO P t = some e) (hn : sizeO P e = some n) (hl : listArg P ts = true) :
    (Builtin.append_ ts ty #[.slice base l c, x]).run P w = (Builtin.append_ #[t] ty #[.slice base l c, x]).run P w := by
  rcases listArg_cases hl with hz | ⟨t2, d2, hz1, hz2, hz3⟩
  · unfold Builtin.append_
    rw [h0, hz]
    rfl
  · have hnot : ∀ k, d2 ≠ .int k := fun k e => by subst e; simp at hz3
    clear hz3
    unfold Builtin.append_
    rw [h0, hz1]
    simp only [List.getElem?_toArray, List.getElem?_cons_zero, List.getElem?_cons_succ, List.getElem?_nil, Sem.run_bind, run_underlying (slc_under hs), Result.andThen, run_sizeOf hn, run_underlying hz2]

theorem run_append_in {ts : Array TypeId} {ty t e : TypeId} {n l c m : Nat} {a : Addr} {x : Value} {new : List Value} {w' : World} (h0 : ts[0]? = some t) (hs : slcO P t = some e) (hn : sizeO P e = some n) (hl : listArg P ts = true)
    (h1 : (Builtin.lenOf x).run P w = .ok m w) (h2 : (Builtin.firstCells n m x).run P w = .ok new.toArray w) (hc : l + m ≤ c) (h3 : (storeCells (a.add (l * n)) new).run P w = .ok () w') :
    (Builtin.append_ ts ty #[.slice (some a) l c, x]).run P w = .ok (.slice (some a) (l + m) c) w' := by
  rw [append_one h0 hs hn hl]
  simp [Builtin.append_, run_underlying (slc_under hs), run_sizeOf hn, h1, h2, hc, h3]

theorem run_append_grow {ts : Array TypeId} {ty t e : TypeId} {n l c m : Nat} {base : Option Addr} {x z : Value} {i : TypeInfo} {old new : List Value} (h0 : ts[0]? = some t) (hs : slcO P t = some e) (hi : P.info? e = some i) (hn : i.size = n) (hl : listArg P ts = true)
    (hz0 : zeroO P e = some z) (hzs : z.cells.size = n) (hsm : smallB (l + m) i.bytes = true)
    (h1 : (Builtin.lenOf x).run P w = .ok m w) (h2 : (Builtin.firstCells n m x).run P w.drew = .ok new.toArray w.drew) (hc : c < l + m)
    (h3 : (Builtin.firstCells n l (.slice base l c)).run P w.drew = .ok old.toArray w.drew) :
    ∃ cap rest w', l + m ≤ cap ∧ rest.length = (cap - (l + m)) * n ∧ w'.heap = w.heap.push (.cells (old ++ new ++ rest).toArray e) ∧ w'.tape = w.tape ∧ w'.os = w.os ∧ w'.output = w.output ∧
      (Builtin.append_ ts ty #[.slice base l c, x]).run P w = .ok (.slice (some ⟨w.heap.size, 0, none⟩) (l + m) cap) w' := by
  have hsz : sizeO P e = some n := by simp [sizeO, hi, hn]
  unfold smallB at hsm
  simp only [Bool.and_eq_true] at hsm
  have b1 : (3 * (l + m) + 1024) * i.bytes ≤ 281474976710656 := Nat.le_of_ble_eq_true hsm.1.1
  have b2 : 0 < i.bytes := by simpa [Nat.blt_eq] using hsm.1.2
  have b3 : l + m ≤ 281474976710656 := Nat.le_of_ble_eq_true hsm.2
  have hnc : ¬ (281474976710656 < Builtin.nextslicecap (l + m) c * i.bytes) := by
    have := Nat.mul_le_mul_right i.bytes (nextcap_le (l + m) c hc)
    omega
  have hb0 : i.bytes ≠ 0 := by omega
  have hgt : ¬ (l + m ≤ c) := by omega
  refine ⟨(Question.appendCap (l + m) c e).cut (w.tape w.drawn (Question.appendCap (l + m) c e)), (Builtin.zeroCells z.cells ((Question.appendCap (l + m) c e).cut (w.tape w.drawn (Question.appendCap (l + m) c e)) - (l + m))).toList,
    ({ w with drawn := w.drawn + 1 } : World).alloc (.cells (old.toArray ++ new.toArray ++ Builtin.zeroCells z.cells ((Question.appendCap (l + m) c e).cut (w.tape w.drawn (Question.appendCap (l + m) c e)) - (l + m))) e), ?_, ?_, ?_, rfl, rfl, rfl, ?_⟩
  · simp [Question.cut]
  · simp [zeroCells_size, hzs]
  · show w.heap.push _ = _
    congr 2
    apply Array.ext'
    simp
  · have hzz : ∀ w, (zeroValue e).run P w = .ok z w := fun w => run_zero hz0
    rw [append_one h0 hs hsz hl]
    simp [Builtin.append_, run_underlying (slc_under hs), run_sizeOf hsz, h1, hgt, typeInfo, hi, hb0, hnc, Question.forced, h2, h3, hzz, newRow]
    congr 2
    apply Array.ext'
    simp

theorem le_new {L : Loc} (hf : φ h.next = none) : Le φ (fun id => if id = h.next then some L else φ id) := fun id M e => by
  by_cases q : id = h.next
  · subst q; rw [hf] at e; cases e
  · simp [q, e]

/-- The end of an append that takes new memory. -/
theorem grow_done {kill : Option Nat} {t : List Nat} {cs cs' rest : List Value} {e n need cap : Nat} {s : Sem Value} {w' : World} (hk : h.next < keyMax) (hkill : ∀ k, kill = some k → k < keyMax) (r : Rel P nG φ G w)
    (a : Agree (Log.mk trk t kill.toList) h G) (hf : Fresh φ G h (h.grow kill (.cells cs e true))) (hc : LR φ cs cs') (hcell : P.cellsOf e = n) (hlen : cs.length = need * n) (hcap : need ≤ cap) (hrest : rest.length = (cap - need) * n)
    (h3 : w'.heap = w.heap.push (.cells (cs' ++ rest).toArray e)) (h4 : w'.tape = w.tape) (h5 : w'.os = w.os) (h6 : w'.output = w.output) (h7 : s.run P w = .ok (.slice (some ⟨w.heap.size, 0, none⟩) need cap) w') :
    (Log.mk trk t kill.toList).isSome = trk ∧ ∃ ψ y w', (valS s).run P w = .ok y w' ∧ Post P nG (Log.mk trk t kill.toList) h (h.grow kill (.cells cs e true)) φ G w ψ w' ∧ NR nG ψ (.val (.slice (some ⟨h.next, 0, none⟩) need need)) y := by
  have hle := le_new (h := h) (L := ⟨w.heap.size, 0, (cs' ++ rest).length, n, true⟩) (hf h.next (Nat.le_refl _) (Nat.lt_succ_self _)).1
  refine ⟨Log.mk_isSome _ _ _, _, .value (.slice (some ⟨w.heap.size, 0, none⟩) need cap), w', by simp [valS, h7],
    Post.grow (L := ⟨w.heap.size, 0, (cs' ++ rest).length, n, true⟩) hk hkill r a hf (.inl ⟨rfl, h3⟩) h4 h5 h6 ?_, .inl ⟨_, rfl, ?_⟩⟩
  · refine ⟨_, rfl, by simp, rfl, hcell.symm, by simp [hc.1], (fun e0 => by cases e0), fun j hj => ?_⟩
    have hj' : j < cs'.length := hc.1 ▸ hj
    exact ⟨cs'[j], by simp [List.getElem?_append_left hj', hj'], (hc.2 j hj hj').mono hle⟩
  · refine .sliceG (L := ⟨w.heap.size, 0, (cs' ++ rest).length, n, true⟩) 0 0 need need cap (by simp) rfl (Nat.le_refl _) hcap ?_ (fun _ => rfl)
    have : cs'.length = need * n := hc.1 ▸ hlen
    simp only [List.length_append, this, hrest, Nat.zero_add, ← Nat.add_mul]
    rw [show need + (cap - need) = cap from by omega]
    exact Nat.le_refl _

theorem Post.turnM {k : Nat} {o o₀ : AObj} {ob : Obj} {L : Loc} {t : List Nat} {w' : World} (hk : k < keyMax) (r : Rel P nG φ G w) (hwf : WF h) (hkt : k ∈ t)
    (a : Agree (Log.mk trk t [k]) h G) (hg : h.m.get k = some o₀) (hφ : φ k = some L) (hs : w'.heap.size = w.heap.size) (hw : ∀ b, b ≠ L.blk → w'.heap[b]? = w.heap[b]?) (hb : w'.heap[L.blk]? = some ob)
    (ht : w'.tape = w.tape) (ho : w'.os = w.os) (hu : w'.output = w.output) (hO : OR P nG φ L o ob) :
    Post P nG (Log.mk trk t [k]) h (h.turn k (some o)) φ G w φ w' := by
  have a' : Agree (Log.wr trk [k]) h G := by
    cases trk with
    | false => exact a
    | true => exact fun id hm hn => a id (by simp at hm; subst hm; exact hkt) hn
  have p := Post.turn hk r hwf a' hg hφ hs hw hb ht ho hu hO
  cases trk with
  | false => exact p
  | true => exact ⟨p.le, p.only, p.rel, p.kept, p.orig, p.size, p.tape, p.os, p.out, p.log, p.wf⟩

theorem snd_append {ts : Array TypeId} {ty : TypeId} {s s' x x' : Value} (hs : VR φ s s') (hx : VR φ x x') : Snd P nG trk h φ G w (happend P trk ts s x h) (valS (Builtin.append_ ts ty #[s', x'])) := by
  unfold happend
  cases hts : (ts[0]?).bind (slcO P) with
  | none => exact snd_none
  | some e =>
    obtain ⟨t, ht0, hte⟩ := Option.bind_eq_some_iff.1 hts
    simp only
    cases hi : P.info? e with
    | none => exact snd_none
    | some i =>
      cases hz : zeroO P e with
      | none => exact snd_none
      | some z =>
        simp only
        cases hc : listArg P ts && Nat.blt 0 i.size && z.cells.toList.length.beq i.size with
        | false => exact snd_none
        | true =>
          simp only [cond_true]
          simp only [Bool.and_eq_true] at hc
          obtain ⟨⟨hla, hpos⟩, hzs⟩ := hc
          have hpos : 0 < i.size := by simpa [Nat.blt_eq] using hpos
          have hzs : z.cells.size = i.size := by have := Nat.eq_of_beq_eq_true hzs; simpa using this
          have hsz : sizeO P e = some i.size := by simp [sizeO, hi]
          have hcell : P.cellsOf e = i.size := by simp [Program.cellsOf, hi]
          cases hsrc : source h i.size x with
          | none => exact snd_none
          | some p =>
            obtain ⟨m, new, tch⟩ := p
            simp only
            have hread : ∀ {u : List Nat} {tt : List Nat}, tch ⊆ tt → WF h → Rel P nG φ G w → Agree (Log.mk trk tt u) h G →
                ∃ new', (Builtin.lenOf x').run P w = .ok m w ∧ (∀ w' : World, w'.heap = w.heap → (Builtin.firstCells i.size m x').run P w' = .ok new'.toArray w') ∧ LR φ new new' ∧ new.length = m * i.size := by
              intro u tt hsub hwf r a
              exact run_source r hx hsrc fun k o hk hg => a.mk_get (hsub hk) hwf hg
            cases hs <;> try exact snd_none
            case nilSlice l c =>
              cases l with
              | succ l => exact snd_none
              | zero =>
                cases c with
                | succ c => exact snd_none
                | zero =>
                  simp only
                  cases hm0 : m.beq 0 with
                  | true =>
                    have hm0 := Nat.eq_of_beq_eq_true hm0
                    subst hm0
                    simp only [cond_true]
                    rintro y h' ℓ e' hwf r a hf
                    simp only [Option.some.injEq, Prod.mk.injEq] at e'
                    obtain ⟨rfl, rfl, rfl⟩ := e'
                    obtain ⟨new', k1, k2, _, _⟩ := hread (List.Subset.refl _) hwf r a
                    refine ⟨Log.mk_isSome _ _ _, φ, .value (.slice none 0 0), w, ?_, ?_, .inl ⟨_, rfl, .nilSlice _ _⟩⟩
                    · have := append_one (P := P) (w := w) (ty := ty) (base := none) (l := 0) (c := 0) (x := x') ht0 hte hsz hla
                      simp only [valS, Sem.run_bind, this]
                      simp [Builtin.append_, run_underlying (slc_under hte), run_sizeOf hsz, k1, k2 w rfl]
                    · exact Post.rd (l := tch) r a rfl rfl rfl rfl
                  | false =>
                    simp only [cond_false]
                    cases hsm : smallB m i.bytes && Nat.blt h.next keyMax with
                    | false => exact snd_none
                    | true =>
                      simp only [cond_true]
                      simp only [Bool.and_eq_true] at hsm
                      have hk : h.next < keyMax := by simpa [Nat.blt_eq] using hsm.2
                      have hmne : m ≠ 0 := fun e0 => by subst e0; simp at hm0
                      rintro y h' ℓ e' hwf r a hf
                      simp only [Option.some.injEq, Prod.mk.injEq] at e'
                      obtain ⟨rfl, rfl, rfl⟩ := e'
                      obtain ⟨new', k1, k2, k3, k4⟩ := hread (List.Subset.refl _) hwf r a
                      obtain ⟨cap, rest, w', q1, q2, q3, q4, q5, q6, q7⟩ := run_append_grow (P := P) (w := w) (ty := ty) (base := none) (l := 0) (c := 0) (x := x') (old := []) (new := new') ht0 hte hi rfl hla hz hzs (by simpa using hsm.1) k1 (k2 _ rfl) (by omega) (by simp [Builtin.firstCells])
                      have hkill : ∀ k, (none : Option Nat) = some k → k < keyMax := fun k e0 => by cases e0
                      exact grow_done (kill := none) (need := m) (cap := cap) (rest := rest) hk hkill r a hf k3 hcell k4 (by omega) (by simpa using q2) (by simpa using q3) q4 q5 q6 (by simpa using q7)
            case slice id L off l c hφ hg =>
              simp only
              cases hget : h.m.get id with
              | none => exact snd_none
              | some o =>
                cases o <;> try exact snd_none
                rename_i cs elem g
                simp only
                cases hle : Nat.ble (l + m) c with
                | true =>
                  simp only [cond_true]
                  have hle := Nat.le_of_ble_eq_true hle
                  cases hb : Nat.ble (off + l * i.size + new.length) cs.length && new.all Value.oneCell' && Nat.blt id keyMax with
                  | false => exact snd_none
                  | true =>
                    simp only [cond_true]
                    simp only [Bool.and_eq_true] at hb
                    obtain ⟨⟨b1, b2⟩, b3⟩ := hb
                    have b1 := Nat.le_of_ble_eq_true b1
                    have hk : id < keyMax := by simpa [Nat.blt_eq] using b3
                    rintro y h' ℓ e' hwf r a hf
                    simp only [Option.some.injEq, Prod.mk.injEq] at e'
                    obtain ⟨rfl, rfl, rfl⟩ := e'
                    obtain ⟨new', k1, k2, k3, k4⟩ := hread (List.subset_cons_self _ _) hwf r a
                    obtain ⟨c', p1, p2, p3⟩ := run_splice r (a.mk_get (by simp) hwf hget) hφ (off := off + l * i.size) b1 k3 (fun v hv => List.all_eq_true.1 b2 v hv)
                    refine ⟨Log.mk_isSome _ _ _, φ, .value (.slice (some ⟨L.blk, L.base + off, none⟩) (l + m) c), w.setRow L.blk c', ?_, ?_, .inl ⟨_, rfl, .slice _ _ _ hφ hg⟩⟩
                    · have := run_append_in (P := P) (w := w) (ty := ty) (l := l) (c := c) (m := m) (a := ⟨L.blk, L.base + off, none⟩) (x := x') (new := new') ht0 hte hsz hla k1 (k2 w rfl) hle (by rw [add_none, Nat.add_assoc]; exact p1)
                      simp [valS, this]
                    · obtain ⟨z1, z2, z3, z4, z5⟩ := setRow_post w L.blk c'
                      exact Post.turnM hk r hwf (by simp) a hget hφ z1 z2 p2 z3 z4 z5 p3
                | false =>
                  simp only [cond_false]
                  cases hold : sub cs off (l * i.size) with
                  | none => exact snd_none
                  | some old =>
                    simp only
                    cases hb : smallB (l + m) i.bytes && Nat.blt h.next keyMax && Nat.blt id keyMax && (!g || (Nat.beq (P.cellsOf elem) i.size && elem.beq e)) && new.all Value.oneCell' with
                    | false => exact snd_none
                    | true =>
                      simp only [cond_true]
                      simp only [Bool.and_eq_true] at hb
                      obtain ⟨⟨⟨⟨b1, b2⟩, b3⟩, b4⟩, b5⟩ := hb
                      have hk : h.next < keyMax := by simpa [Nat.blt_eq] using b2
                      have hlt : c < l + m := by
                        rcases Nat.lt_or_ge c (l + m) with q | q
                        · exact q
                        · rw [Nat.ble_eq_true_of_le q] at hle; cases hle
                      rintro y h' ℓ e' hwf r a hf
                      simp only [Option.some.injEq, Prod.mk.injEq] at e'
                      obtain ⟨rfl, rfl, rfl⟩ := e'
                      have hG := a.mk_get (by simp) hwf hget
                      have hgf : g = false := by
                        obtain ⟨_, _, _, e3, _⟩ := rel_cells r hG hφ
                        rw [← e3]; exact hg
                      subst hgf
                      simp only [cond_false] at a hf ⊢
                      obtain ⟨new', k1, k2, k3, k4⟩ := hread (List.subset_cons_self _ _) hwf r a
                      obtain ⟨old', o1, o2, o3⟩ := run_cells r hG hφ hold
                      obtain ⟨cap, rest, w', q1, q2, q3, q4, q5, q6, q7⟩ := run_append_grow (P := P) (w := w) (ty := ty) (base := some ⟨L.blk, L.base + off, none⟩) (l := l) (c := c) (x := x') (old := old') (new := new') ht0 hte hi rfl hla hz hzs b1 k1 (k2 _ rfl) hlt (by simp only [Builtin.firstCells]; exact o1 _ rfl)
                      have hkill : ∀ k, (none : Option Nat) = some k → k < keyMax := fun k e0 => by cases e0
                      exact grow_done (kill := none) (need := l + m) (cap := cap) (rest := rest) hk hkill r a hf (o2.append k3) hcell (by rw [List.length_append, o3, k4, Nat.add_mul]) q1 q2 q3 q4 q5 q6 q7
            case sliceG id L off off' l c c' hφ hg s1 s2 s3 s4 =>
              simp only
              cases hget : h.m.get id with
              | none => exact snd_none
              | some o =>
                cases o <;> try exact snd_none
                rename_i cs elem g
                simp only
                cases hle : Nat.ble (l + m) c with
                | true =>
                  simp only [cond_true]
                  have hle := Nat.le_of_ble_eq_true hle
                  cases hb : Nat.ble (off + l * i.size + new.length) cs.length && new.all Value.oneCell' && Nat.blt id keyMax with
                  | false => exact snd_none
                  | true =>
                    simp only [cond_true]
                    simp only [Bool.and_eq_true] at hb
                    obtain ⟨⟨b1, b2⟩, b3⟩ := hb
                    have b1 := Nat.le_of_ble_eq_true b1
                    have hk : id < keyMax := by simpa [Nat.blt_eq] using b3
                    rintro y h' ℓ e' hwf r a hf
                    simp only [Option.some.injEq, Prod.mk.injEq] at e'
                    obtain ⟨rfl, rfl, rfl⟩ := e'
                    obtain ⟨new', k1, k2, k3, k4⟩ := hread (List.subset_cons_self _ _) hwf r a
                    by_cases hc0 : 0 < c
                    · have := s4 hc0
                      subst this
                      obtain ⟨d', p1, p2, p3⟩ := run_splice r (a.mk_get (by simp) hwf hget) hφ (off := off + l * i.size) b1 k3 (fun v hv => List.all_eq_true.1 b2 v hv)
                      refine ⟨Log.mk_isSome _ _ _, φ, .value (.slice (some ⟨L.blk, L.base + off, none⟩) (l + m) c'), w.setRow L.blk d', ?_, ?_, .inl ⟨_, rfl, .sliceG _ _ _ _ _ hφ hg hle s2 s3 s4⟩⟩
                      · have := run_append_in (P := P) (w := w) (ty := ty) (l := l) (c := c') (m := m) (a := ⟨L.blk, L.base + off, none⟩) (x := x') (new := new') ht0 hte hsz hla k1 (k2 w rfl) (by omega) (by rw [add_none, Nat.add_assoc]; exact p1)
                        simp [valS, this]
                      · obtain ⟨z1, z2, z3, z4, z5⟩ := setRow_post w L.blk d'
                        exact Post.turnM hk r hwf (by simp) a hget hφ z1 z2 p2 z3 z4 z5 p3
                    · -- nothing is appended to nothing
                      have hl0 : l = 0 := by omega
                      have hm0 : m = 0 := by omega
                      subst hl0 hm0
                      have hn0 : new = [] := List.eq_nil_of_length_eq_zero (by rw [k4]; simp)
                      have hn1 : new' = [] := List.eq_nil_of_length_eq_zero (by rw [← k3.1, k4]; simp)
                      subst hn0 hn1
                      obtain ⟨d', p1, p2, p3⟩ := run_splice r (a.mk_get (by simp) hwf hget) hφ (off := off + 0 * i.size) b1 k3 (fun v hv => by simp at hv)
                      simp only [storeCells, Sem.run_pure, Result.ok.injEq, true_and] at p1
                      refine ⟨Log.mk_isSome _ _ _, φ, .value (.slice (some ⟨L.blk, off', none⟩) (0 + 0) c'), w, ?_, ?_, .inl ⟨_, rfl, .sliceG _ _ _ _ _ hφ hg hle s2 s3 s4⟩⟩
                      · have := run_append_in (P := P) (w := w) (ty := ty) (l := 0) (c := c') (m := 0) (a := ⟨L.blk, off', none⟩) (x := x') (new := []) ht0 hte hsz hla k1 (k2 w rfl) (by omega) (by simp [storeCells]; rfl)
                        simp [valS, this]
                      · obtain ⟨z1, z2, z3, z4, z5⟩ := setRow_post w L.blk d'
                        rw [← p1] at z1 z2 z3 z4 z5 p2
                        exact Post.turnM hk r hwf (by simp) a hget hφ z1 z2 p2 z3 z4 z5 p3
                | false =>
                  simp only [cond_false]
                  cases hold : sub cs off (l * i.size) with
                  | none => exact snd_none
                  | some old =>
                    simp only
                    cases hb : smallB (l + m) i.bytes && Nat.blt h.next keyMax && Nat.blt id keyMax && (!g || (Nat.beq (P.cellsOf elem) i.size && elem.beq e)) && new.all Value.oneCell' with
                    | false => exact snd_none
                    | true =>
                      simp only [cond_true]
                      simp only [Bool.and_eq_true] at hb
                      obtain ⟨⟨⟨⟨b1, b2⟩, b3⟩, b4⟩, b5⟩ := hb
                      have hk : h.next < keyMax := by simpa [Nat.blt_eq] using b2
                      have hkid : id < keyMax := by simpa [Nat.blt_eq] using b3
                      rintro y h' ℓ e' hwf r a hf
                      simp only [Option.some.injEq, Prod.mk.injEq] at e'
                      obtain ⟨rfl, rfl, rfl⟩ := e'
                      have hG := a.mk_get (by simp) hwf hget
                      obtain ⟨cc, g1, g2, g3, g4, g5, g6, g7⟩ := rel_cells r hG hφ
                      have hgt : g = true := by rw [← g3]; exact hg
                      subst hgt
                      simp only [cond_true] at a hf ⊢
                      simp only [Bool.not_true, Bool.false_eq_true, false_or, Bool.or_eq_true, Bool.and_eq_true] at b4
                      have hesz : L.esz = i.size := by rw [g4]; exact Nat.eq_of_beq_eq_true b4.1
                      have helem : elem = e := Nat.eq_of_beq_eq_true b4.2
                      subst helem
                      obtain ⟨new', k1, k2, k3, k4⟩ := hread (List.subset_cons_self _ _) hwf r a
                      have hkill : ∀ k, some id = some k → k < keyMax := fun k e0 => by cases e0; exact hkid
                      -- the old cells
                      obtain ⟨old', o1, o2, o3⟩ : ∃ old', (∀ w' : World, w'.heap = w.heap → (Builtin.firstCells i.size l (.slice (some ⟨L.blk, off', none⟩) l c')).run P w' = .ok old'.toArray w') ∧ LR φ old old' ∧ old.length = l * i.size := by
                        by_cases hl : l = 0
                        · subst hl
                          obtain ⟨old', o1, o2, o3⟩ := run_cells r hG hφ hold
                          have : old = [] := List.eq_nil_of_length_eq_zero (by rw [o3]; simp)
                          subst this
                          exact ⟨[], fun w' _ => by simp [Builtin.firstCells, loadCells, loadCellsFrom], LR.nil, by simp⟩
                        · have := s4 (by omega)
                          subst this
                          obtain ⟨old', o1, o2, o3⟩ := run_cells r hG hφ hold
                          exact ⟨old', fun w' hw' => by simp only [Builtin.firstCells]; exact o1 w' hw', o2, o3⟩
                      by_cases hfit : l + m ≤ c'
                      · -- it lies where it lay
                        have hone : ∀ v ∈ new', v.oneCell' = true := by
                          intro v hm
                          obtain ⟨q, hq, rfl⟩ := List.getElem_of_mem hm
                          have hq' : q < new.length := by rw [k3.1]; exact hq
                          exact (k3.2 q hq' hq).one (List.all_eq_true.1 b5 _ (List.getElem_mem _))
                        have hnl : new'.length = m * i.size := k3.1 ▸ k4
                        have hmul : (l + m) * i.size ≤ c' * i.size := Nat.mul_le_mul_right _ hfit
                        rw [hesz] at s3
                        have hbound : off' + l * i.size + new'.length ≤ cc.size := by rw [Nat.add_mul] at hmul; rw [hnl, g2]; omega
                        have hst := run_storeCells_at P L.blk (off' + l * i.size) elem new' 0 cc w g1 (by omega) hone
                        simp only [Nat.add_zero] at hst
                        have happ := run_append_in (P := P) (w := w) (ty := ty) (l := l) (c := c') (m := m) (a := ⟨L.blk, off', none⟩) (x := x') (new := new') ht0 hte hsz hla k1 (k2 w rfl) hfit (by rw [add_none]; exact hst)
                        obtain ⟨z1, z2, z3, z4, z5⟩ := setRow_post w L.blk (cc.toList.take (off' + l * i.size) ++ new' ++ cc.toList.drop (off' + l * i.size + new'.length)).toArray
                        have hle' := le_new (h := h) (L := ⟨L.blk, off', L.size, i.size, true⟩) (hf h.next (Nat.le_refl _) (Nat.lt_succ_self _)).1
                        refine ⟨Log.mk_isSome _ _ _, _, .value (.slice (some ⟨L.blk, off', none⟩) (l + m) c'), _, by simp [valS, happ],
                          Post.grow (kill := some id) (L := ⟨L.blk, off', L.size, i.size, true⟩) hk hkill r a hf (.inr ⟨id, L, _, rfl, hG, hφ, rfl, z1, z2, setRow_heap _ _ _ _ _ _ g1⟩) z3 z4 z5 ?_, .inl ⟨_, rfl, ?_⟩⟩
                        · have hon : (old ++ new).length = (l + m) * i.size := by rw [List.length_append, o3, k4, Nat.add_mul]
                          refine ⟨_, rfl, ?_, rfl, hcell.symm, by simp only [hon]; omega, (fun e0 => by cases e0), fun j hj => ?_⟩
                          · simp only [List.size_toArray, List.length_append, List.length_take, List.length_drop, Array.length_toList, g2, hnl] at hbound ⊢
                            omega
                          · have hs' := splice_get (cs := cc.toList) (vs := new') (off := off' + l * i.size) (by simpa using hbound) (off' + j)
                            simp only [splice] at hs'
                            simp only [List.getElem?_toArray, hs']
                            by_cases q : j < l * i.size
                            · rw [if_neg (by omega)]
                              have hl : l ≠ 0 := fun e0 => by subst e0; simp at q
                              have := s4 (by omega)
                              subst this
                              unfold sub at hold
                              have hlen : ((cs.drop off).take (l * i.size)).length.beq (l * i.size) = true := by
                                cases q0 : ((cs.drop off).take (l * i.size)).length.beq (l * i.size) with
                                | true => rfl
                                | false => rw [q0] at hold; cases hold
                              rw [hlen] at hold
                              simp only [cond_true, Option.some.injEq] at hold
                              have hlen := Nat.eq_of_beq_eq_true hlen
                              have hlt : off + j < cs.length := by simp at hlen; omega
                              obtain ⟨v, v1, v2⟩ := g7 (off + j) hlt
                              refine ⟨v, by rw [Array.getElem?_toList, Nat.add_assoc]; exact v1, ?_⟩
                              have : (old ++ new)[j] = cs[off + j] := by
                                rw [List.getElem_append_left (by omega)]
                                subst hold
                                simp
                              rw [this]
                              exact v2.mono hle'
                            · have hjn : j < l * i.size + new'.length := by rw [hon, Nat.add_mul] at hj; rw [hnl]; exact hj
                              rw [if_pos (by omega)]
                              have hj2 : j - l * i.size < new'.length := by rw [hnl]; rw [hon, Nat.add_mul] at hj; omega
                              have hj3 : j - l * i.size < new.length := by rw [k3.1]; exact hj2
                              refine ⟨new'[j - l * i.size], ?_, ?_⟩
                              · rw [show off' + j - (off' + l * i.size) = j - l * i.size from by omega]
                                simp [hj2]
                              · have : (old ++ new)[j] = new[j - l * i.size] := by
                                  rw [List.getElem_append_right (by omega)]
                                  simp [o3]
                                rw [this]
                                exact (k3.2 _ hj3 hj2).mono hle'
                        · exact .sliceG (L := ⟨L.blk, off', L.size, i.size, true⟩) 0 off' (l + m) (l + m) c' (by simp) rfl (Nat.le_refl _) hfit s3 (fun _ => rfl)
                      · obtain ⟨cap, rest, w', q1, q2, q3, q4, q5, q6, q7⟩ := run_append_grow (P := P) (w := w) (ty := ty) (base := some ⟨L.blk, off', none⟩) (l := l) (c := c') (x := x') (old := old') (new := new') ht0 hte hi rfl hla hz hzs b1 k1 (k2 _ rfl) (by omega) (o1 _ rfl)
                        exact grow_done (kill := some id) (need := l + m) (cap := cap) (rest := rest) hk hkill r a hf (o2.append k3) hcell (by rw [List.length_append, o3, k4, Nat.add_mul]) q1 q2 q3 q4 q5 q6 q7
            all_goals exact snd_none

end
end Go.Proofs.YthiaocbikmiciaaGreatDoor.H
