/- The machine over values: less is told of a state. -/
import Derived.Test.YtjmcgdhekjkjfaaVM24
set_option linter.unusedSimpArgs false
set_option linter.unusedVariables false
namespace Go.VM
open Go

variable {P : Program} {C : Ctx} {st st' : St} {a : Act} {w : World} {own : Own} {β : Nat → Option Nat}

theorem look_keepT {live : List Nat} {t : Nat} : ∀ {l : List (Nat × V)}, look t (keepT live l) = if hasNat t live = true then look t l else none
  | [] => by simp [keepT, look]
  | (u, x) :: l => by
    simp only [keepT]
    have ih := look_keepT (live := live) (t := t) (l := l)
    by_cases e : t = u
    · subst e
      cases h : hasNat t live with
      | true => simp [look]
      | false => simp only [h] at ih ⊢; simpa using ih
    · cases h : hasNat u live with
      | true => simp only [look, nbeq_false e, cond_false]; exact ih
      | false => simp only [look, nbeq_false e, cond_false]; exact ih

theorem look_keep {live : List Nat} {t : Nat} {l : List (Nat × V)} {x : V} (h : look t (keepT live l) = some x) : look t l = some x := by
  rw [look_keepT] at h
  split at h
  · exact h
  · cases h

theorem look_oldT {n t : Nat} : ∀ {l : List (Nat × V)}, look t (oldT n l) = (look t l).map (oldV n)
  | [] => rfl
  | (u, x) :: l => by
    simp only [oldT, look]
    cases Nat.beq t u with
    | true => rfl
    | false => exact look_oldT

theorem Rel.prune (R : Rel C st a w own β) (live : List Nat) : Rel C (st.prune live) a w own β := by
  refine ⟨R.defers, fun t x h => R.tmps t x (look_keep h), R.blocks, R.fresh, R.gone, ?_, fun i j h => R.ob i j (hasPl_drop h).1, R.plain, R.glob⟩
  intro p hp x v hv
  refine R.owns p (hasPl_drop hp).1 x v ?_
  cases p with
  | t t => exact ⟨look_keep hv.1, hv.2⟩
  | c t j => obtain ⟨vs, arr, h1, h2⟩ := hv; exact ⟨vs, arr, look_keep h1, h2⟩
  | b i j => exact hv

-- ------------------------------------------------------------ back to the blocks of before

theorem oldL_map (n : Nat) : ∀ cs : List V, oldL n cs = cs.map (oldV n)
  | [] => rfl
  | x :: cs => by simp [oldL, oldL_map n cs]

def cut (n : Nat) (β : Nat → Option Nat) : Nat → Option Nat := fun i => if i < n then β i else none

theorem RepV.old {own' : Own} {v : Value} {x : V} (n : Nat) (s : Sub w own w own') (h : RepV w own β v x) : RepV w own' (cut n β) v (oldV n x) := by
  have list : ∀ {arr : Array Value} {cs : List V}, (∀ (j : Nat) (x : V), cs[j]? = some x → RepV w own' (cut n β) (arr.getD j undef) (oldV n x)) →
      ∀ (j : Nat) (x : V), (oldL n cs)[j]? = some x → RepV w own' (cut n β) (arr.getD j undef) x := by
    intro arr cs ih j x hx
    rw [oldL_map, List.getElem?_map, Option.map_eq_some_iff] at hx
    obtain ⟨y, hy, rfl⟩ := hx
    exact ih j y hy
  induction h with
  | any v => exact .any v
  | skip => exact .skip
  | d v x h => exact .d v x (h.mono s)
  | ptr i off b h =>
    simp only [oldV]
    cases e : Nat.blt i n with
    | true => exact .ptr i off b (by simp [cut, show i < n by simpa [Nat.blt_eq] using e, h])
    | false => exact .any _
  | mu i off len cap sz b a h hs hc hm ha hb =>
    simp only [oldV]
    cases e : Nat.blt i n with
    | true => exact .mu i off len cap sz b a (by simp [cut, show i < n by simpa [Nat.blt_eq] using e, h]) hs hc hm ha hb
    | false => exact .any _
  | gp g off => exact .gp g off
  | fn f arr cs hs hr ih => exact .fn f arr _ (by rw [hs, oldL_map]; simp) (list ih)
  | agg arr cs hs h1 hr ih => exact .agg arr _ (by rw [hs, oldL_map]; simp) h1 (list ih)
  | tup arr cs hs hr ih => exact .tup arr _ (by rw [hs, oldL_map]; simp) (list ih)

def cutOwn (n : Nat) (own : Own) : Own := fun b => match own b with
  | some (.bl i, m) => if i < n then some (.bl i, m) else none
  | x => x

theorem cutOwn_or (n : Nat) (own : Own) (b : Nat) : cutOwn n own b = own b ∨ (cutOwn n own b = none ∧ ∃ i m, own b = some (.bl i, m)) := by
  unfold cutOwn
  split
  · rename_i i m h
    split
    · exact .inl h.symm
    · exact .inr ⟨rfl, i, m, h⟩
  · exact .inl rfl

theorem ext_cut (n : Nat) (w : World) (own : Own) : Ext w own w (cutOwn n own) where
  os := rfl
  tape := rfl
  output := rfl
  size := Nat.le_refl _
  free b _ h := ⟨rfl, by rcases cutOwn_or n own b with h1 | ⟨h1, _⟩ <;> rw [h1]; exact h⟩
  part b ow m _ h := ⟨fun _ _ => rfl, fun ow' n' h' => by
    rcases cutOwn_or n own b with h1 | ⟨h1, _⟩
    · rw [h1, h] at h'; cases h'; exact Nat.le_refl _
    · rw [h1] at h'; cases h'⟩
  wide := Wide.refl w
  far b m h := ⟨rfl, by
    rcases cutOwn_or n own b with h1 | ⟨_, i, k, h1⟩
    · rw [h1]; exact h
    · rw [h] at h1; cases h1⟩

theorem szOf_old (n : Nat) (x : V) : szOf (oldV n x) = szOf x := by
  cases x with
  | ptr i o => simp only [oldV]; cases Nat.blt i n <;> rfl
  | mu i o l c s => simp only [oldV]; cases Nat.blt i n <;> rfl
  | _ => rfl

theorem getB_trim (n : Nat) (live : List Nat) (i : Nat) : getB (st.trim n live) i = if i < n then (match getB st i with | some B => oldB n (some B) | none => none) else none := by
  simp only [getB, St.trim, List.getElem?_map, List.getElem?_take]
  by_cases h : i < n
  · simp only [h, if_true]
    cases e : st.blocks[i]? with
    | none => rfl
    | some x =>
      cases x with
      | none => rfl
      | some B => cases B <;> rfl
  · simp [h]

theorem Rel.trim (R : Rel C st a w own β) (n : Nat) (live : List Nat) : Rel C (st.trim n live) a w (cutOwn n own) (cut n β) ∧ Ext w own w (cutOwn n own) := by
  have E := ext_cut n w own
  have keep : ∀ {p : Pl}, hasPl p (st.trim n live).owns = true → hasPl p st.owns = true ∧ keepO n live p = false := fun h => hasPl_drop h
  have lookT : ∀ {t : Nat} {x : V}, look t (st.trim n live).tmps = some x → ∃ y, look t st.tmps = some y ∧ x = oldV n y := by
    intro t x h
    simp only [St.trim, look_oldT, Option.map_eq_some_iff] at h
    obtain ⟨y, h1, h2⟩ := h
    exact ⟨y, look_keep h1, h2.symm⟩
  refine ⟨⟨R.defers, ?_, ?_, ?_, ?_, ?_, ?_, ?_, ?_⟩, E⟩
  · intro t x h
    obtain ⟨y, h1, rfl⟩ := lookT h
    exact (R.tmps t y h1).old n E.sub
  · intro i B h
    rw [getB_trim] at h
    split at h
    · rename_i hi
      split at h
      · rename_i B0 hB
        obtain ⟨b, h1, h2⟩ := R.blocks i B0 hB
        refine ⟨b, by simp [cut, hi, h1], ?_⟩
        cases h2 with
        | cells fz cs arr e g1 g2 g3 g4 g5 =>
          simp only [oldB, Option.some.injEq] at h
          subst h
          refine .cells fz _ arr e g1 (by rw [g2, oldL_map]; simp) g3 (fun j x hx => ?_) ?_
          · rw [oldL_map, List.getElem?_map, Option.map_eq_some_iff] at hx
            obtain ⟨y, hy, rfl⟩ := hx
            exact (g4 j y hy).old n E.sub
          · cases fz <;> simp at g5 <;> simp [cutOwn, g5, hi]
        | ints fz k xs arr e g1 g2 g3 g5 =>
          simp only [oldB, Option.some.injEq] at h
          subst h
          exact .ints fz k xs arr e g1 g2 g3 (by cases fz <;> simp at g5 <;> simp [cutOwn, g5, hi])
      · cases h
    · cases h
  · intro i hi
    simp only [St.trim, List.length_map, List.length_take] at hi
    unfold cut
    split
    · exact R.fresh i (by omega)
    · rfl
  · intro i hi h
    rw [getB_trim] at h
    unfold cut
    split
    · rename_i hin
      rw [if_pos hin] at h
      cases hB : getB st i with
      | none =>
        rcases Nat.lt_or_ge i st.blocks.length with h5 | h5
        · exact R.gone i h5 hB
        · exact R.fresh i h5
      | some B => rw [hB] at h; cases B <;> simp [oldB] at h
    · rfl
  · intro p hp x v hv
    obtain ⟨hp1, hp2⟩ := keep hp
    have key : ∃ y, x = oldV n y ∧ ValAt st a w β p y v := by
      cases p with
      | t t =>
        obtain ⟨h1, h2⟩ := hv
        obtain ⟨y, h3, h4⟩ := lookT h1
        exact ⟨y, h4, h3, h2⟩
      | c t j =>
        obtain ⟨vs, arr, h1, h2, h3, h4⟩ := hv
        obtain ⟨y, h5, h6⟩ := lookT h1
        cases y with
        | tup us =>
          simp only [oldV, V.tup.injEq] at h6
          subst h6
          rw [oldL_map, List.getElem?_map, Option.map_eq_some_iff] at h2
          obtain ⟨z, hz, rfl⟩ := h2
          exact ⟨z, rfl, us, arr, h5, hz, h3, h4⟩
        | ptr i o => simp only [oldV] at h6; cases h7 : Nat.blt i n <;> rw [h7] at h6 <;> cases h6
        | mu i o l c s => simp only [oldV] at h6; cases h7 : Nat.blt i n <;> rw [h7] at h6 <;> cases h6
        | _ => simp [oldV] at h6
      | b i j =>
        obtain ⟨fz, cs, b, h1, h2, h3, h4⟩ := hv
        rw [getB_trim] at h1
        split at h1
        · rename_i hi
          split at h1
          · rename_i B hB
            cases B with
            | ints fz k xs => simp [oldB] at h1
            | cells fz' cs' =>
              simp only [oldB, Option.some.injEq, Blk.cells.injEq] at h1
              obtain ⟨rfl, rfl⟩ := h1
              rw [oldL_map, List.getElem?_map, Option.map_eq_some_iff] at h2
              obtain ⟨z, hz, rfl⟩ := h2
              exact ⟨z, rfl, fz', cs', b, hB, hz, by simpa [cut, hi] using h3, h4⟩
          · cases h1
        · cases h1
    obtain ⟨y, rfl, hy⟩ := key
    intro sz hsz
    rw [szOf_old] at hsz
    rcases R.owns p hp1 y v hy sz hsz with h0 | ⟨b, o, len, cap, h1, h2⟩
    · exact .inl h0
    · refine .inr ⟨b, o, len, cap, h1, ?_⟩
      rcases h2 with h2 | ⟨h2, h3, h4⟩
      · exact .inl h2
      · exact .inr ⟨h2, by simp [cutOwn, h3], h4⟩
  · intro i j h
    obtain ⟨h1, h2⟩ := keep h
    simp only [keepO, Bool.not_eq_eq_eq_not, Bool.not_false, Nat.blt_eq] at h2
    obtain ⟨B, hB⟩ := R.ob i j h1
    rw [getB_trim, if_pos h2, hB]
    cases B with
    | cells fz cs => exact ⟨_, rfl⟩
    | ints fz k xs => exact ⟨_, rfl⟩
  · intro b s h
    rcases cutOwn_or n own b with h1 | ⟨h1, _⟩
    · rw [h1] at h; exact R.plain b s h
    · rw [h1] at h; cases h
  · exact fun g cs h => (R.glob g cs h).mono E.sub

end Go.VM
