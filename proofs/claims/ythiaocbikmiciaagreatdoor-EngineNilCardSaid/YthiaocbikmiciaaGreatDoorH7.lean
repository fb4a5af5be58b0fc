/- The machine that is run by the kernel, part 7: no claim of its own. -/
import Derived.Test.YthiaocbikmiciaaGreatDoorH6
namespace Go.Proofs.YthiaocbikmiciaaGreatDoor.H
section
variable {P : Program} {nG : Nat} {prim : Prims} {trk : Bool} {h h' : HS}

/-- The numbers of blocks only rise. -/
def Up (h : HS) (r : R HNext) : Prop := ∀ x h' ℓ, r = some (x, h', ℓ) → h.next ≤ h'.next

theorem up_none : Up h none := fun x h' ℓ e => by cases e
theorem up_same {x : HNext} {ℓ : Log} : Up h (some (x, h, ℓ)) := fun x h' ℓ e => by cases e; exact Nat.le_refl _
theorem up_ret {v : Value} : Up h (ret trk h v) := up_same
theorem up_retO {v : Option Value} : Up h (retO trk h v) := by
  cases v
  · exact up_none
  · exact up_same
theorem up_new {o : AObj} {v : Nat → Value} : Up h (hnew trk h o v) := by
  unfold hnew
  cases Nat.blt h.next keyMax
  · exact up_none
  · intro x h' ℓ e; cases e; exact Nat.le_succ _
theorem up_put {id : Nat} {o : AObj} {v : Value} : Up h (hput trk h id o v) := by
  unfold hput
  cases Nat.blt id keyMax
  · exact up_none
  · intro x h' ℓ e; cases e; exact Nat.le_refl _
theorem up_turn {x : HNext} {ℓ : Log} {id : Nat} {o : Option AObj} : Up h (some (x, h.turn id o, ℓ)) := fun x h' ℓ e => by cases e; exact Nat.le_refl _
theorem up_grow {x : HNext} {ℓ : Log} {k : Option Nat} {o : AObj} : Up h (some (x, h.grow k o, ℓ)) := fun x h' ℓ e => by cases e; exact Nat.le_succ _
theorem up_cond {b : Bool} {r s : R HNext} (h1 : Up h r) (h2 : Up h s) : Up h (bif b then r else s) := by cases b <;> assumption

theorem up_load {t : TypeId} {a : Value} : Up h (hload P trk t a h) := by
  unfold hload
  split
  · split
    · refine up_cond ?_ ?_
      · split
        · exact up_same
        · exact up_none
      · split
        · exact up_same
        · exact up_none
    · exact up_none
  · exact up_none
theorem up_store {t : TypeId} {a v : Value} : Up h (hstore P trk t a v h) := by
  unfold hstore
  split
  · split
    · exact up_cond up_put up_none
    · exact up_none
  · exact up_none
theorem up_buildSlice {t : TypeId} {n : Nat} {ps : List (Nat × Value)} : Up h (hbuildSlice P trk t n ps h) := by
  unfold hbuildSlice
  split
  · exact up_none
  · split
    · refine up_cond ?_ up_none
      split
      · exact up_new
      · exact up_none
    · exact up_none
theorem up_makeSlice {t : TypeId} {l c : Value} : Up h (hmakeSlice P trk t l c h) := by
  unfold hmakeSlice
  split
  · split
    · exact up_cond up_new up_none
    · exact up_none
  · exact up_none
theorem up_slice {t : TypeId} {x : Value} {lo hi mx : Option Value} : Up h (hslice P trk t x lo hi mx h) := by
  unfold hslice
  split
  · split
    · split
      · exact up_ret
      · exact up_none
    · exact up_none
  · split
    · split
      · exact up_cond up_ret up_none
      · exact up_none
    · exact up_none
  · split
    · split
      · split
        · exact up_cond up_same up_none
        · exact up_none
      · exact up_none
    · exact up_none
  · split
    · split
      · split
        · exact up_cond up_none up_same
        · exact up_none
      · exact up_none
    · exact up_none
  · exact up_none
theorem up_flat {ρ : Operand → Value} {o : Oper} : Up h (hflat P trk ρ o h) := by
  unfold hflat
  refine up_cond ?_ up_none
  split
  · exact up_cond up_ret up_none
  · exact up_none
theorem up_lookup {t : TypeId} {m k : Value} {ok : Bool} : Up h (hlookup P trk t m k ok h) := by
  unfold hlookup
  split
  · refine up_cond ?_ up_none
    split
    · exact up_ret
    · exact up_none
  · split
    · refine up_cond ?_ up_none
      split
      · exact up_same
      · split
        · exact up_same
        · exact up_none
      · exact up_none
    · exact up_none
  · exact up_none
theorem up_mapUpdate {t : TypeId} {m k v : Value} : Up h (hmapUpdate P trk t m k v h) := by
  unfold hmapUpdate
  split
  · split
    · refine up_cond ?_ up_none
      split
      · exact up_cond up_put up_none
      · exact up_put
      · exact up_none
    · exact up_none
  · exact up_none
theorem up_len {t : TypeId} {x : Value} : Up h (hlen P trk t x h) := by
  unfold hlen
  repeat' split
  all_goals first | exact up_none | exact up_same
theorem up_append {ts : Array TypeId} {s x : Value} : Up h (happend P trk ts s x h) := by
  unfold happend
  split
  · exact up_none
  · split
    · refine up_cond ?_ up_none
      split
      · exact up_none
      · split
        · exact up_cond up_same (up_cond up_grow up_none)
        · split
          · refine up_cond (up_cond up_turn up_none) ?_
            split
            · exact up_none
            · exact up_cond up_grow up_none
          · exact up_none
        · exact up_none
    · exact up_none
theorem up_call {ρ : Operand → Value} {o : Oper} {c : Call} : Up h (hcall P trk ρ o c h) := by
  unfold hcall
  split
  · split
    · exact up_len
    · exact up_none
  · split
    · exact up_append
    · exact up_none
  · exact up_flat
  · split
    · exact up_cond up_same up_none
    · split
      · exact up_cond up_same up_none
      · exact up_none
    · exact up_none
  · exact up_none

theorem up_hop {ρ : Operand → Value} {o : Oper} : Up h (hop P trk ρ o h) := by
  unfold hop
  split
  all_goals first
    | exact up_none
    | exact up_ret
    | exact up_retO
    | exact up_new
    | exact up_load
    | exact up_store
    | exact up_buildSlice
    | exact up_makeSlice
    | exact up_slice
    | exact up_flat
    | exact up_lookup
    | exact up_mapUpdate
    | exact up_call
    | exact up_cond up_ret up_none
    | (unfold hpick; split <;> first | exact up_ret | exact up_none)
    | (split <;> first | exact up_none | exact up_ret | exact up_new | exact up_flat)

/-- Contracts whose numbers rise. -/
def PrimUp (prim : Prims) : Prop := ∀ f p, prim f = some p → ∀ trk h args v h' ℓ, p trk h args = some (v, h', ℓ) → h.next ≤ h'.next

theorem pre_some {l : Log} {r : Res} {x : Rs} {h' : HS} {ℓ : Log} (e : pre l r = some (x, h', ℓ)) : ∃ ℓ', r = some (x, h', ℓ') ∧ ℓ = l.app ℓ' := by
  unfold pre at e
  obtain ⟨⟨a, b, c⟩, e1, e2⟩ := Option.map_eq_some_iff.1 e
  simp only [Prod.mk.injEq] at e2
  obtain ⟨rfl, rfl, rfl⟩ := e2
  exact ⟨c, e1, rfl⟩

theorem hset_next {l : Nat} {o : AObj} {h1 : HS} {ℓ : Log} (e : hset trk h l o = some (h1, ℓ)) : h1.next = h.next := by
  unfold hset at e
  cases q : Nat.blt l keyMax <;> simp only [q, cond_true, cond_false] at e
  · cases e
  · cases e; rfl
theorem hbegin_next {l : Nat} {h1 : HS} {ℓ : Log} (e : hbegin trk h l = some (h1, ℓ)) : h1.next = h.next := by
  unfold hbegin at e
  split at e
  · split at e
    · exact hset_next e
    · cases e
  · cases e
theorem hend_next {l : Nat} {j : Option Code} {h1 : HS} {ℓ : Log} (e : hend trk h l j = some (h1, ℓ)) : h1.next = h.next := by
  unfold hend at e
  split at e
  · exact hset_next e
  · cases e
theorem hendLoop_next {l : Nat} {x : HX} {h1 : HS} {ℓ : Log} (e : hendLoop trk h l = some (x, h1, ℓ)) : h1.next = h.next := by
  unfold hendLoop at e
  split at e
  · rename_i r _
    cases q : isBusy r.state <;> simp only [q, cond_true, cond_false] at e
    · split at e
      · rename_i e2
        cases e
        exact hset_next e2
      · cases e
    · cases e
  · cases e
theorem hcollect_next : ∀ {ds : List Deferred} {h h1 : HS} {ℓ : Log}, hcollect trk h ds = some (h1, ℓ) → h1.next = h.next
  | [], h, h1, ℓ, e => by simp only [hcollect] at e; cases e; rfl
  | d :: ds, h, h1, ℓ, e => by
    simp only [hcollect] at e
    split at e
    · split at e
      · split at e
        · rename_i e1
          split at e
          · rename_i e2
            cases e
            exact (hcollect_next e2).trans (hset_next e1)
          · cases e
        · cases e
      · cases e
    · cases e
theorem henter_next {F : Fr} {ps : Array Tmp} {a b : Code} {l : Nat} {mark : List Deferred} {h1 : HS} {ℓ : Log} (e : henter trk F ps a b h = some (l, mark, h1, ℓ)) : h.next ≤ h1.next := by
  unfold henter at e
  split at e
  · cases q : Nat.blt (h.next + 1) keyMax <;> simp only [q, cond_true, cond_false] at e
    · cases e
    · cases e; simp [HS.push]; omega
  · split at e
    · cases q : Nat.blt h.next keyMax <;> simp only [q, cond_true, cond_false] at e
      · cases e
      · cases e; simp [HS.push]
    · cases e

theorem hx_up (hp : PrimUp prim) : ∀ (n : Nat) (trk : Bool) (tk : Tk) (h : HS) (rs : Rs) (h' : HS) (ℓ : Log), hx P nG prim n trk tk h = some (rs, h', ℓ) → h.next ≤ h'.next := by
  intro n
  induction n with
  | zero => intro trk tk h rs h' ℓ e; simp [hx] at e
  | succ n ih =>
    intro trk tk h rs h' ℓ e
    cases tk with
    | op o F =>
      simp only [hx] at e
      cases h1 : hop P trk F.eval o h with
      | none => simp [h1] at e
      | some y =>
        obtain ⟨y, s, l⟩ := y
        have u := up_hop (P := P) (trk := trk) (ρ := F.eval) (o := o) y s l h1
        cases y <;> simp only [h1] at e
        · cases e; exact u
        · obtain ⟨l', e1, _⟩ := pre_some e
          exact Nat.le_trans u (ih _ _ _ _ _ _ e1)
        · obtain ⟨l', e1, _⟩ := pre_some e
          exact Nat.le_trans u (ih _ _ _ _ _ _ e1)
    | ops l all F =>
      cases l with
      | nil => simp only [hx] at e; cases e; exact Nat.le_refl _
      | cons o rest =>
        simp only [hx] at e
        cases hw : F.wanted all o with
        | true =>
          simp only [hw, cond_true] at e
          cases h1 : hx P nG prim n trk (.op o F) h with
          | none => simp [h1] at e
          | some y =>
            obtain ⟨y, s, l⟩ := y
            have u := ih _ _ _ _ _ _ h1
            cases y <;> simp only [h1] at e <;> try (cases e; done)
            split at e
            · obtain ⟨l', e1, _⟩ := pre_some e
              exact Nat.le_trans u (ih _ _ _ _ _ _ e1)
            · cases e
        | false =>
          simp only [hw, cond_false] at e
          split at e
          · exact ih _ _ _ _ _ _ e
          · cases e
    | drw l all F acc =>
      cases l with
      | nil =>
        simp only [hx] at e
        cases hi : indep all acc.reverse <;> simp [hi] at e
        obtain ⟨_, rfl, _⟩ := e
        exact Nat.le_refl _
      | cons o rest =>
        simp only [hx] at e
        cases hw : F.wanted all o with
        | true =>
          simp only [hw, cond_true] at e
          cases h1 : hx P nG prim n true (.op o F) h with
          | none => simp [h1] at e
          | some y =>
            obtain ⟨y, s, l⟩ := y
            have u := ih _ _ _ _ _ _ h1
            cases y <;> cases l <;> rw [h1] at e <;> (try simp only at e) <;> try (cases e; done)
            rename_i v tu
            split at e
            · obtain ⟨t, u'⟩ := tu
              rename_i F1 _
              cases hs : soundR ⟨h.next, s.next, t, u'⟩
              · rw [hs] at e; cases e
              · rw [hs] at e
                simp only [cond_true] at e
                obtain ⟨l', e1, _⟩ := pre_some e
                exact Nat.le_trans u (ih _ _ _ _ _ _ e1)
            · cases e
        | false =>
          simp only [hw, cond_false] at e
          split at e
          · obtain ⟨l', e1, _⟩ := pre_some e
            exact ih _ _ _ _ _ _ e1
          · cases e
    | code c F =>
      cases c <;> simp only [hx] at e
      case skip => cases e; exact Nat.le_refl _
      case label => cases e; exact Nat.le_refl _
      case exit => cases e; exact Nat.le_refl _
      case ret => cases e; exact Nat.le_refl _
      case seq a b =>
        cases h1 : hx P nG prim n trk (.code a F) h with
        | none => simp [h1] at e
        | some y =>
          obtain ⟨y, s, l⟩ := y
          have u := ih _ _ _ _ _ _ h1
          simp only [h1] at e
          split at e
          · rename_i q
            cases q
            obtain ⟨l', e1, _⟩ := pre_some e
            exact Nat.le_trans u (ih _ _ _ _ _ _ e1)
          · cases e; exact u
      case cond c a b =>
        split at e
        · exact ih _ _ _ _ _ _ e
        · cases e
      case block id c =>
        cases h1 : hx P nG prim n trk (.code c F) h with
        | none => simp [h1] at e
        | some y =>
          obtain ⟨y, s, l⟩ := y
          have u := ih _ _ _ _ _ _ h1
          simp only [h1] at e
          split at e
          · rename_i q
            cases q
            cases e; exact u
          · cases e; exact u
      case loop c =>
        cases h1 : hx P nG prim n trk (.code c F) h with
        | none => simp [h1] at e
        | some y =>
          obtain ⟨y, s, l⟩ := y
          have u := ih _ _ _ _ _ _ h1
          simp only [h1] at e
          split at e
          · rename_i q
            cases q
            obtain ⟨l', e1, _⟩ := pre_some e
            exact Nat.le_trans u (ih _ _ _ _ _ _ e1)
          · cases e; exact u
      case scope c => exact ih _ _ _ _ _ _ e
      case region id ops d =>
        cases d <;> simp only at e
        · exact ih _ _ _ _ _ _ e
        · cases hb : apartT ops && hx.noSelA ops <;> simp only [hb, cond_true, cond_false] at e
          · cases e
          · cases h1 : hx P nG prim n trk (.drw ops.toList ops F []) h with
            | none => simp [h1] at e
            | some y =>
              obtain ⟨y, s, l⟩ := y
              have u := ih _ _ _ _ _ _ h1
              simp only [h1] at e
              split at e
              · rename_i q
                cases q
                cases e; exact u
              · cases e
      case rangeFunc f ps a b =>
        split at e
        · rename_i g first cap _
          cases hq : enterOK P g <;> rw [hq] at e
          · cases e
          · simp only [cond_true] at e
            split at e
            · rename_i e1
              have u1 := henter_next e1
              split at e
              · rename_i e2
                have u2 := ih _ _ _ _ _ _ e2
                split at e
                · rename_i e3
                  have u3 := hendLoop_next e3
                  cases e
                  omega
                · cases e
              · cases e
            · cases e
        · cases e
      all_goals cases e
    | call f args =>
      simp only [hx] at e
      split at e
      · rename_i p hpp
        obtain ⟨⟨a, b, c⟩, e1, e2⟩ := Option.map_eq_some_iff.1 e
        cases e2
        exact hp f p hpp _ _ _ _ _ _ e1
      · split at e
        · cases e
        · rename_i fn _
          split at e
          · cases e
          · rename_i c _
            cases hb : okC nG c && Nat.ble args.size fn.ntmps && Nat.blt fn.ntmps keyMax <;> simp only [hb, cond_true, cond_false] at e
            · cases e
            · split at e
              · rename_i h1
                have u := ih _ _ _ _ _ _ h1
                split at e
                · cases e
                · split at e
                  · rename_i e3
                    have u2 := hcollect_next e3
                    split at e
                    · cases e; rw [u2]; exact u
                    · cases e
                  · cases e
              · cases e
    | round id F a b =>
      simp only [hx] at e
      split at e
      · rename_i e1
        have u1 := ih _ _ _ _ _ _ e1
        split at e
        · rename_i e2
          have u2 := hbegin_next e2
          split at e
          · rename_i e3
            have u3 := ih _ _ _ _ _ _ e3
            split at e
            · rename_i e4
              have u4 := hend_next e4
              cases e
              omega
            · cases e
          · cases e
        · cases e
      · cases e

end
end Go.Proofs.YthiaocbikmiciaaGreatDoor.H
namespace Go.Proofs.YthiaocbikmiciaaGreatDoor.H
section
variable {P : Program} {nG : Nat} {prim : Prims} {trk : Bool} {h h' : HS}

/-- A log is kept where one is asked for. -/
def Lg (trk : Bool) (r : R HNext) : Prop := ∀ x h' ℓ, r = some (x, h', ℓ) → ℓ.isSome = trk

theorem lg_none : Lg trk none := fun x h' ℓ e => by cases e
theorem lg_same {x : HNext} {h' : HS} {ℓ : Log} (hl : ℓ.isSome = trk := by first | exact Log.nil_isSome _ | exact Log.rd_isSome _ _ | exact Log.wr_isSome _ _ | exact Log.mk_isSome _ _ _) : Lg trk (some (x, h', ℓ)) := fun x h' ℓ e => by cases e; exact hl
theorem lg_ret {v : Value} : Lg trk (ret trk h v) := lg_same
theorem lg_retO {v : Option Value} : Lg trk (retO trk h v) := by
  cases v
  · exact lg_none
  · exact lg_same
theorem lg_new {o : AObj} {v : Nat → Value} : Lg trk (hnew trk h o v) := by
  unfold hnew
  cases Nat.blt h.next keyMax
  · exact lg_none
  · exact lg_same
theorem lg_put {id : Nat} {o : AObj} {v : Value} : Lg trk (hput trk h id o v) := by
  unfold hput
  cases Nat.blt id keyMax
  · exact lg_none
  · exact lg_same
theorem lg_cond {b : Bool} {r s : R HNext} (h1 : Lg trk r) (h2 : Lg trk s) : Lg trk (bif b then r else s) := by cases b <;> assumption

theorem lg_load {t : TypeId} {a : Value} : Lg trk (hload P trk t a h) := by
  unfold hload
  split
  · split
    · refine lg_cond ?_ ?_
      · split
        · exact lg_same
        · exact lg_none
      · split
        · exact lg_same
        · exact lg_none
    · exact lg_none
  · exact lg_none
theorem lg_store {t : TypeId} {a v : Value} : Lg trk (hstore P trk t a v h) := by
  unfold hstore
  split
  · split
    · exact lg_cond lg_put lg_none
    · exact lg_none
  · exact lg_none
theorem lg_buildSlice {t : TypeId} {n : Nat} {ps : List (Nat × Value)} : Lg trk (hbuildSlice P trk t n ps h) := by
  unfold hbuildSlice
  split
  · exact lg_none
  · split
    · refine lg_cond ?_ lg_none
      split
      · exact lg_new
      · exact lg_none
    · exact lg_none
theorem lg_makeSlice {t : TypeId} {l c : Value} : Lg trk (hmakeSlice P trk t l c h) := by
  unfold hmakeSlice
  split
  · split
    · exact lg_cond lg_new lg_none
    · exact lg_none
  · exact lg_none
theorem lg_slice {t : TypeId} {x : Value} {lo hi mx : Option Value} : Lg trk (hslice P trk t x lo hi mx h) := by
  unfold hslice
  split
  · split
    · split
      · exact lg_ret
      · exact lg_none
    · exact lg_none
  · split
    · split
      · exact lg_cond lg_ret lg_none
      · exact lg_none
    · exact lg_none
  · split
    · split
      · split
        · exact lg_cond lg_same lg_none
        · exact lg_none
      · exact lg_none
    · exact lg_none
  · split
    · split
      · split
        · exact lg_cond lg_none lg_same
        · exact lg_none
      · exact lg_none
    · exact lg_none
  · exact lg_none
theorem lg_flat {ρ : Operand → Value} {o : Oper} : Lg trk (hflat P trk ρ o h) := by
  unfold hflat
  refine lg_cond ?_ lg_none
  split
  · exact lg_cond lg_ret lg_none
  · exact lg_none
theorem lg_lookup {t : TypeId} {m k : Value} {ok : Bool} : Lg trk (hlookup P trk t m k ok h) := by
  unfold hlookup
  split
  · refine lg_cond ?_ lg_none
    split
    · exact lg_ret
    · exact lg_none
  · split
    · refine lg_cond ?_ lg_none
      split
      · exact lg_same
      · split
        · exact lg_same
        · exact lg_none
      · exact lg_none
    · exact lg_none
  · exact lg_none
theorem lg_mapUpdate {t : TypeId} {m k v : Value} : Lg trk (hmapUpdate P trk t m k v h) := by
  unfold hmapUpdate
  split
  · split
    · refine lg_cond ?_ lg_none
      split
      · exact lg_cond lg_put lg_none
      · exact lg_put
      · exact lg_none
    · exact lg_none
  · exact lg_none
theorem lg_len {t : TypeId} {x : Value} : Lg trk (hlen P trk t x h) := by
  unfold hlen
  repeat' split
  all_goals first | exact lg_none | exact lg_same
theorem lg_append {ts : Array TypeId} {s x : Value} : Lg trk (happend P trk ts s x h) := by
  unfold happend
  split
  · exact lg_none
  · split
    · refine lg_cond ?_ lg_none
      split
      · exact lg_none
      · split
        · exact lg_cond lg_same (lg_cond lg_same lg_none)
        · split
          · refine lg_cond (lg_cond lg_same lg_none) ?_
            split
            · exact lg_none
            · exact lg_cond lg_same lg_none
          · exact lg_none
        · exact lg_none
    · exact lg_none
theorem lg_call {ρ : Operand → Value} {o : Oper} {c : Call} : Lg trk (hcall P trk ρ o c h) := by
  unfold hcall
  split
  · split
    · exact lg_len
    · exact lg_none
  · split
    · exact lg_append
    · exact lg_none
  · exact lg_flat
  · split
    · exact lg_cond lg_same lg_none
    · split
      · exact lg_cond lg_same lg_none
      · exact lg_none
    · exact lg_none
  · exact lg_none

theorem lg_hop {ρ : Operand → Value} {o : Oper} : Lg trk (hop P trk ρ o h) := by
  unfold hop
  split
  all_goals first
    | exact lg_none
    | exact lg_ret
    | exact lg_retO
    | exact lg_new
    | exact lg_load
    | exact lg_store
    | exact lg_buildSlice
    | exact lg_makeSlice
    | exact lg_slice
    | exact lg_flat
    | exact lg_lookup
    | exact lg_mapUpdate
    | exact lg_call
    | exact lg_cond lg_ret lg_none
    | (unfold hpick; split <;> first | exact lg_ret | exact lg_none)
    | (split <;> first | exact lg_none | exact lg_ret | exact lg_new | exact lg_flat)


/-- Contracts that keep a log where one is asked for. -/
def PrimLg (prim : Prims) : Prop := ∀ f p, prim f = some p → ∀ trk h args v h' ℓ, p trk h args = some (v, h', ℓ) → ℓ.isSome = trk

theorem hset_lg {l : Nat} {o : AObj} {h1 : HS} {ℓ : Log} (e : hset trk h l o = some (h1, ℓ)) : ℓ.isSome = trk := by
  unfold hset at e
  cases q : Nat.blt l keyMax <;> simp only [q, cond_true, cond_false] at e
  · cases e
  · cases e; exact Log.wr_isSome _ _
theorem hbegin_lg {l : Nat} {h1 : HS} {ℓ : Log} (e : hbegin trk h l = some (h1, ℓ)) : ℓ.isSome = trk := by
  unfold hbegin at e
  split at e
  · split at e
    · exact hset_lg e
    · cases e
  · cases e
theorem hend_lg {l : Nat} {j : Option Code} {h1 : HS} {ℓ : Log} (e : hend trk h l j = some (h1, ℓ)) : ℓ.isSome = trk := by
  unfold hend at e
  split at e
  · exact hset_lg e
  · cases e
theorem hendLoop_lg {l : Nat} {x : HX} {h1 : HS} {ℓ : Log} (e : hendLoop trk h l = some (x, h1, ℓ)) : ℓ.isSome = trk := by
  unfold hendLoop at e
  split at e
  · rename_i r _
    cases q : isBusy r.state <;> simp only [q, cond_true, cond_false] at e
    · split at e
      · rename_i e2
        cases e
        exact hset_lg e2
      · cases e
    · cases e
  · cases e
theorem hcollect_lg : ∀ {ds : List Deferred} {h h1 : HS} {ℓ : Log}, hcollect trk h ds = some (h1, ℓ) → ℓ.isSome = trk
  | [], h, h1, ℓ, e => by simp only [hcollect] at e; cases e; exact Log.nil_isSome _
  | d :: ds, h, h1, ℓ, e => by
    simp only [hcollect] at e
    split at e
    · split at e
      · split at e
        · rename_i e1
          split at e
          · rename_i e2
            cases e
            exact Log.app_isSome (hset_lg e1) (hcollect_lg e2)
          · cases e
        · cases e
      · cases e
    · cases e
theorem henter_lg {F : Fr} {ps : Array Tmp} {a b : Code} {l : Nat} {mark : List Deferred} {h1 : HS} {ℓ : Log} (e : henter trk F ps a b h = some (l, mark, h1, ℓ)) : ℓ.isSome = trk := by
  unfold henter at e
  split at e
  · cases q : Nat.blt (h.next + 1) keyMax <;> simp only [q, cond_true, cond_false] at e
    · cases e
    · cases e; exact Log.nil_isSome _
  · split at e
    · cases q : Nat.blt h.next keyMax <;> simp only [q, cond_true, cond_false] at e
      · cases e
      · cases e; exact Log.rd_isSome _ _
    · cases e
theorem hload_lg {t : TypeId} {a : Value} {v : Value} {h1 : HS} {ℓ : Log} (e : hload P trk t a h = some (.val v, h1, ℓ)) : ℓ.isSome = trk := lg_load _ _ _ e
theorem hresults_lg {F : Fr} : ∀ {rs : List ResultVar} {vs : List Value} {ℓ : Log}, hresults P trk F h rs = some (vs, ℓ) → ℓ.isSome = trk
  | [], vs, ℓ, e => by simp only [hresults] at e; cases e; exact Log.nil_isSome _
  | .tmp t :: rest, vs, ℓ, e => by
    simp only [hresults] at e
    obtain ⟨⟨a, b⟩, e1, e2⟩ := Option.map_eq_some_iff.1 e
    cases e2
    exact hresults_lg e1
  | .cell a t :: rest, vs, ℓ, e => by
    simp only [hresults] at e
    split at e
    · rename_i e1 e2
      cases e
      exact Log.app_isSome (hload_lg e1) (hresults_lg e2)
    · cases e

theorem hx_lg (hp : PrimLg prim) : ∀ (n : Nat) (trk : Bool) (tk : Tk) (h : HS) (rs : Rs) (h' : HS) (ℓ : Log), hx P nG prim n trk tk h = some (rs, h', ℓ) → ℓ.isSome = trk := by
  intro n
  induction n with
  | zero => intro trk tk h rs h' ℓ e; simp [hx] at e
  | succ n ih =>
    intro trk tk h rs h' ℓ e
    cases tk with
    | op o F =>
      simp only [hx] at e
      cases h1 : hop P trk F.eval o h with
      | none => simp [h1] at e
      | some y =>
        obtain ⟨y, s, l⟩ := y
        have u := lg_hop (P := P) (trk := trk) (ρ := F.eval) (o := o) y s l h1
        cases y <;> simp only [h1] at e
        · cases e; exact u
        · obtain ⟨l', e1, rfl⟩ := pre_some e
          exact Log.app_isSome u (ih _ _ _ _ _ _ e1)
        · obtain ⟨l', e1, rfl⟩ := pre_some e
          exact Log.app_isSome u (ih _ _ _ _ _ _ e1)
    | ops l all F =>
      cases l with
      | nil => simp only [hx] at e; cases e; exact Log.nil_isSome _
      | cons o rest =>
        simp only [hx] at e
        cases hw : F.wanted all o with
        | true =>
          simp only [hw, cond_true] at e
          cases h1 : hx P nG prim n trk (.op o F) h with
          | none => simp [h1] at e
          | some y =>
            obtain ⟨y, s, l⟩ := y
            have u := ih _ _ _ _ _ _ h1
            cases y <;> simp only [h1] at e <;> try (cases e; done)
            split at e
            · obtain ⟨l', e1, rfl⟩ := pre_some e
              exact Log.app_isSome u (ih _ _ _ _ _ _ e1)
            · cases e
        | false =>
          simp only [hw, cond_false] at e
          split at e
          · exact ih _ _ _ _ _ _ e
          · cases e
    | drw l all F acc =>
      cases l with
      | nil =>
        simp only [hx] at e
        cases hi : indep all acc.reverse <;> simp [hi] at e
        obtain ⟨_, _, rfl⟩ := e
        exact Log.nil_isSome _
      | cons o rest =>
        simp only [hx] at e
        cases hw : F.wanted all o with
        | true =>
          simp only [hw, cond_true] at e
          split at e
          · split at e
            · have kk : ∀ {b : Bool} {r : Res}, (bif b then r else none) = some (rs, h', ℓ) → r = some (rs, h', ℓ) := by
                intro b r q; cases b
                · cases q
                · exact q
              · have e := kk e
                obtain ⟨l', e2, rfl⟩ := pre_some e
                exact Log.app_isSome (by cases trk <;> rfl) (ih _ _ _ _ _ _ e2)
            · cases e
          · cases e
        | false =>
          simp only [hw, cond_false] at e
          split at e
          · obtain ⟨l', e1, rfl⟩ := pre_some e
            exact Log.app_isSome (Log.nil_isSome _) (ih _ _ _ _ _ _ e1)
          · cases e
    | code c F =>
      cases c <;> simp only [hx] at e
      case skip => cases e; exact Log.nil_isSome _
      case label => cases e; exact Log.nil_isSome _
      case exit => cases e; exact Log.nil_isSome _
      case ret => cases e; exact Log.nil_isSome _
      case seq a b =>
        cases h1 : hx P nG prim n trk (.code a F) h with
        | none => simp [h1] at e
        | some y =>
          obtain ⟨y, s, l⟩ := y
          have u := ih _ _ _ _ _ _ h1
          simp only [h1] at e
          split at e
          · rename_i q
            cases q
            obtain ⟨l', e1, rfl⟩ := pre_some e
            exact Log.app_isSome u (ih _ _ _ _ _ _ e1)
          · cases e; exact u
      case cond c a b =>
        split at e
        · exact ih _ _ _ _ _ _ e
        · cases e
      case block id c =>
        cases h1 : hx P nG prim n trk (.code c F) h with
        | none => simp [h1] at e
        | some y =>
          obtain ⟨y, s, l⟩ := y
          have u := ih _ _ _ _ _ _ h1
          simp only [h1] at e
          split at e
          · rename_i q
            cases q
            cases e; exact u
          · cases e; exact u
      case loop c =>
        cases h1 : hx P nG prim n trk (.code c F) h with
        | none => simp [h1] at e
        | some y =>
          obtain ⟨y, s, l⟩ := y
          have u := ih _ _ _ _ _ _ h1
          simp only [h1] at e
          split at e
          · rename_i q
            cases q
            obtain ⟨l', e1, rfl⟩ := pre_some e
            exact Log.app_isSome u (ih _ _ _ _ _ _ e1)
          · cases e; exact u
      case scope c => exact ih _ _ _ _ _ _ e
      case region id ops d =>
        cases d <;> simp only at e
        · exact ih _ _ _ _ _ _ e
        · cases hb : apartT ops && hx.noSelA ops <;> simp only [hb, cond_true, cond_false] at e
          · cases e
          · cases h1 : hx P nG prim n trk (.drw ops.toList ops F []) h with
            | none => simp [h1] at e
            | some y =>
              obtain ⟨y, s, l⟩ := y
              have u := ih _ _ _ _ _ _ h1
              simp only [h1] at e
              split at e
              · rename_i q
                cases q
                cases e; exact u
              · cases e
      case rangeFunc f ps a b =>
        split at e
        · rename_i g first cap _
          cases hq : enterOK P g <;> rw [hq] at e
          · cases e
          · simp only [cond_true] at e
            split at e
            · rename_i e1
              have u1 := henter_lg e1
              split at e
              · rename_i e2
                have u2 := ih _ _ _ _ _ _ e2
                split at e
                · rename_i e3
                  have u3 := hendLoop_lg e3
                  cases e
                  exact Log.app_isSome (Log.app_isSome u1 u2) u3
                · cases e
              · cases e
            · cases e
        · cases e
      all_goals cases e
    | call f args =>
      simp only [hx] at e
      split at e
      · rename_i p hpp
        obtain ⟨⟨a, b, c⟩, e1, e2⟩ := Option.map_eq_some_iff.1 e
        cases e2
        exact hp f p hpp _ _ _ _ _ _ e1
      · split at e
        · cases e
        · rename_i fn _
          split at e
          · cases e
          · rename_i c _
            cases hb : okC nG c && Nat.ble args.size fn.ntmps && Nat.blt fn.ntmps keyMax <;> simp only [hb, cond_true, cond_false] at e
            · cases e
            · split at e
              · rename_i h1
                have u := ih _ _ _ _ _ _ h1
                split at e
                · cases e
                · split at e
                  · rename_i e3
                    have u2 := hcollect_lg e3
                    split at e
                    · rename_i e4
                      have u3 := hresults_lg e4
                      cases e; exact Log.app_isSome (Log.app_isSome u u2) u3
                    · cases e
                  · cases e
              · cases e
    | round id F a b =>
      simp only [hx] at e
      split at e
      · rename_i e1
        have u1 := ih _ _ _ _ _ _ e1
        split at e
        · rename_i e2
          have u2 := hbegin_lg e2
          split at e
          · rename_i e3
            have u3 := ih _ _ _ _ _ _ e3
            split at e
            · rename_i e4
              have u4 := hend_lg e4
              cases e
              exact Log.app_isSome (Log.app_isSome (Log.app_isSome u1 u2) u3) u4
            · cases e
          · cases e
        · cases e
      · cases e

end
end Go.Proofs.YthiaocbikmiciaaGreatDoor.H
