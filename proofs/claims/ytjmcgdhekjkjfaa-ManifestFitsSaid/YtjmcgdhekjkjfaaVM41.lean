/- The machine over values: more fuel does no harm. -/
import Derived.Test.YtjmcgdhekjkjfaaVM40
set_option linter.unusedSimpArgs false
set_option linter.unusedVariables false
namespace Go.VM
open Go

/-- The same, but for its calls. -/
def Ctx.with (C : Ctx) (g : FuncId → List V → Option Ret) : Ctx := { C with call := g }

variable {C : Ctx} {g : FuncId → List V → Option Ret} {s s1 : St}

theorem wEvO (st : St) (t : Nat) (x : Operand) : evO (C.with g) st t x = evO C st t x := by cases x <;> rfl
theorem wAsD (st : St) (v : V) : asD (C.with g) st v = asD C st v := by cases v <;> rfl
theorem wArgV (st : St) (v : V) : argV (C.with g) st v = argV C st v := by cases v <;> rfl
theorem wArgs : ∀ (xs : List Operand) (ts : List Nat) (st : St), evArgs (C.with g) st xs ts = evArgs C st xs ts
  | [], _, _ => rfl
  | x :: xs, ts, st => by
    simp only [evArgs, wEvO]
    cases evO C st (ts.headD 0) x with
    | none => rfl
    | some v =>
      simp only [wArgV]
      cases argV C st v with
      | none => rfl
      | some r => obtain ⟨u, s'⟩ := r; simp only [wArgs xs]
theorem wParts (st : St) (pl : Nat → Option (Nat × Nat)) : ∀ l : List (Nat × Operand), partsAt (C.with g) st pl l = partsAt C st pl l
  | [] => rfl
  | (i, x) :: l => by
    simp only [partsAt, wEvO, wParts st pl l]
    rfl
theorem wBuild (st : St) (t : Nat) (l : List (Nat × Operand)) : evBuild (C.with g) st t l = evBuild C st t l := by
  simp only [evBuild, wParts]; rfl
theorem wLit (st : St) (t n : Nat) (l : List (Nat × Operand)) : litCells (C.with g) st t n l = litCells C st t n l := by
  simp only [litCells, wParts]; rfl
theorem wCaps (st : St) : ∀ l : List Operand, evCaps (C.with g) st l = evCaps C st l
  | [] => rfl
  | x :: l => by simp only [evCaps, wEvO, wCaps st l]
theorem wBnd (st : St) (x : Option Operand) (d : Int) : bnd (C.with g) st x d = bnd C st x d := by
  cases x with
  | none => rfl
  | some o => simp only [bnd, wEvO]
theorem wLoad (st : St) (t : Nat) (p : V) : evLoad (C.with g) st t p = evLoad C st t p := rfl
theorem wStore (st : St) (t : Nat) (p v : V) : evStore (C.with g) st t p v = evStore C st t p v := rfl
theorem wConv (st : St) (s d : Nat) (v : V) : evConv (C.with g) st s d v = evConv C st s d v := rfl
theorem wSlice (st : St) (t : Nat) (x : V) (lo : Int) (hi mx : Option Int) : evSlice (C.with g) st t x lo hi mx = evSlice C st t x lo hi mx := rfl
theorem wFA (s f : Nat) (p : V) : evFieldAddr (C.with g) s f p = evFieldAddr C s f p := rfl
theorem wF (s f : Nat) (p : V) : evField (C.with g) s f p = evField C s f p := rfl
theorem wIA (t : Nat) (p : V) (i : Int) : evIndexAddr (C.with g) t p i = evIndexAddr C t p i := rfl
theorem wI (t : Nat) (p : V) (i : Int) : evIndex (C.with g) t p i = evIndex C t p i := rfl
theorem wMake (st : St) (slot : Option Nat) (t : Nat) (n : Int) : evMake (C.with g) st slot t n = evMake C st slot t n := rfl
theorem wBin (op : BinOp) (t : Nat) (ox oy : Operand) (x y : V) : evBin (C.with g) op t ox oy x y = evBin C op t ox oy x y := rfl
theorem wBuiltin (st : St) (dst : Option Nat) (b : Builtin) (as : List Operand) (ts : List Nat) : evBuiltin (C.with g) st dst b as ts = evBuiltin C st dst b as ts := by
  unfold evBuiltin
  simp only [wEvO]
  rfl
theorem wLin (d : Option Nat) : inLin (C.with g) d = inLin C d := rfl

theorem mono_op (hg : ∀ f a r, C.call f a = some r → g f a = some r) {slot : Option Nat} {o : Oper} (h : evOp C slot o s = some s1) : evOp (C.with g) slot o s = some s1 := by
  have same : (∀ c, o.op ≠ .call c) → evOp (C.with g) slot o s = evOp C slot o s := by
    intro hne
    cases hop : o.op with
    | call c => exact absurd hop (hne c)
    | makeFunc f a b => cases f <;> simp only [evOp, hop, wCaps] <;> rfl
    | _ => simp only [evOp, hop, wEvO, wBuild, wLit, wCaps, wBnd, wLoad, wStore, wConv, wSlice, wFA, wF, wIA, wI, wMake, wBin, wLin, wAsD] <;> rfl
  cases hop : o.op with
  | call c =>
    simp only [evOp, hop] at h ⊢
    cases hc : c.callee with
    | builtin b => rw [hc] at h; simp only [wBuiltin] at h ⊢; exact h
    | invoke r m => rw [hc] at h; cases h
    | value f =>
      rw [hc] at h
      simp only [wArgs] at h ⊢
      split at h
      · rename_i q caps hq
        try simp only [hq]
        split at h
        · rename_i vs st hv
          try simp only [hv]
          simp only [callWith] at h ⊢
          split at h
          · rename_i e1
            try simp only [e1]
            split at h
            · rename_i r hr
              have := hg _ _ _ hr
              simp only [Ctx.with, this]
              exact h
            · cases h
          · cases h
        · cases h
      · cases h
  | _ => rw [same (by intro c; rw [hop]; intro h; cases h)]; exact h

theorem mono_ops (hg : ∀ f a r, C.call f a = some r → g f a = some r) {ops : Array Oper} : ∀ {l : List Oper} {s s1 : St}, evOps C ops l s = some s1 → evOps (C.with g) ops l s = some s1
  | [], s, s1, h => h
  | o :: l, s, s1, h => by
    simp only [evOps] at h ⊢
    split at h
    · split at h
      · rename_i h2
        simp only [mono_op hg h2]
        exact mono_ops hg h
      · cases h
    · exact mono_ops hg h
    · cases h

theorem mono_opD (hg : ∀ f a r, C.call f a = some r → g f a = some r) {n i : Nat} {fl : Bool} {o : Oper} (h : opD C n i fl o s = some s1) : opD (C.with g) n i fl o s = some s1 := by
  cases hop : o.op with
  | alloc e =>
    simp only [opD, hop] at h ⊢
    split at h
    · exact mono_op hg h
    · cases h
  | box e x =>
    simp only [opD, hop] at h ⊢
    split at h
    · exact mono_op hg h
    · cases h
  | makeSlice t l c =>
    simp only [opD, hop] at h ⊢
    split at h
    · exact mono_op hg h
    · cases h
  | move x => simp only [opD, hop, wEvO] at h ⊢; exact h
  | buildSlice t k ps => simp only [opD, hop, wLit] at h ⊢; exact h
  | load t x =>
    simp only [opD, hop] at h ⊢
    split at h
    · cases h
    · exact mono_op hg h
  | store t x y =>
    simp only [opD, hop] at h ⊢
    split at h
    · cases h
    · exact mono_op hg h
  | _ => simp only [opD, hop] at h ⊢; exact mono_op hg h

theorem mono_evD (hg : ∀ f a r, C.call f a = some r → g f a = some r) {ops : Array Oper} {n : Nat} {fl : List Nat} : ∀ {l : List Oper} {i : Nat} {s s1 : St}, evD C ops n fl i l s = some s1 → evD (C.with g) ops n fl i l s = some s1
  | [], i, s, s1, h => h
  | o :: l, i, s, s1, h => by
    simp only [evD] at h ⊢
    split at h
    · split at h
      · rename_i h2
        simp only [mono_opD hg h2]
        exact mono_evD hg h
      · cases h
    · exact mono_evD hg h
    · cases h

theorem mono_iter {f f' : St → Option (Ex × St)} (hf : ∀ s r, f s = some r → f' s = some r) {n : Nat} {live out : List Nat} : ∀ {k k' : Nat}, k ≤ k' → ∀ {s : St} {r : Ex × St}, iter f n live out k s = some r → iter f' n live out k' s = some r
  | 0, _, _, s, r, h => by simp [iter] at h
  | k + 1, k', hk, s, r, h => by
    obtain ⟨k', rfl⟩ : ∃ j, k' = j + 1 := ⟨k' - 1, by omega⟩
    simp only [iter] at h ⊢
    split at h
    · rename_i e
      simp only [hf _ _ e]
      exact mono_iter hf (by omega) h
    · rename_i e st hne e1
      simp only [hf _ _ e1]
      cases e with
      | normal => exact absurd rfl hne
      | _ => exact h
    · cases h

theorem mono_ev (hg : ∀ f a r, C.call f a = some r → g f a = some r) {fuel fuel' : Nat} (hfu : fuel ≤ fuel') : ∀ {c : Code} {s : St} {r : Ex × St}, ev C fuel c s = some r → ev (C.with g) fuel' c s = some r := by
  intro c
  induction c with
  | region id ops draw =>
    intro s r h
    cases draw with
    | false =>
      simp only [ev] at h ⊢
      split at h
      · rename_i e; simp only [mono_ops hg e]; exact h
      · cases h
    | true =>
      simp only [ev] at h ⊢
      split at h
      · rename_i st e
        have : evD (C.with g).nolin ops s.blocks.length ((C.with g).live (id + 200000)) 0 ops.toList s = some st := mono_evD (C := C.nolin) hg e
        simp only [this]; exact h
      · cases h
  | seq a b iha ihb =>
    intro s r h
    simp only [ev] at h ⊢
    split at h
    · rename_i e; simp only [iha e]; exact ihb h
    · rename_i hne
      rw [iha h]
      obtain ⟨e, st⟩ := r
      cases e with
      | normal => exact absurd h (hne st)
      | _ => rfl
  | cond c a b iha ihb =>
    intro s r h
    simp only [ev, wEvO] at h ⊢
    split at h
    · rename_i b e
      try simp only [e]
      cases b with
      | true => exact iha h
      | false => exact ihb h
    · cases h
  | block id c ih =>
    intro s r h
    simp only [ev] at h ⊢
    split at h
    · rename_i j st e
      simp only [ih e]; exact h
    · rename_i hne
      rw [ih h]
      obtain ⟨e, st⟩ := r
      cases e with
      | exit j => exact absurd h (hne j st)
      | _ => rfl
  | loop c ih =>
    intro s r h
    simp only [ev] at h ⊢
    exact mono_iter (fun s r h => ih h) hfu h
  | scope c ih => intro s r h; simp only [ev] at h ⊢; exact ih h
  | _ => intro s r h; exact h

theorem wRes : ∀ (rs : List ResultVar) (st : St), resV (C.with g) st rs = resV C st rs
  | [], st => rfl
  | r :: rs, st => by
    simp only [resV, wLoad, wArgV, wRes rs]

theorem mono_finish {rs : List ResultVar} {x : Option (Ex × St)} : finish (C.with g) rs x = finish C rs x := by
  unfold finish
  simp only [wRes]

/-- More fuel, and more depth. -/
theorem callN_mono {E : Env} {fuel fuel' : Nat} (hfu : fuel ≤ fuel') : ∀ {n n' : Nat} {f : FuncId} {args : List V} {r : Ret}, n ≤ n' → callN E fuel n f args = some r → callN E fuel' n' f args = some r
  | 0, _, f, args, r, _, h => by simp [callN] at h
  | n + 1, n', f, args, r, hn, h => by
    obtain ⟨n', rfl⟩ : ∃ j, n' = j + 1 := ⟨n' - 1, by omega⟩
    simp only [callN] at h ⊢
    split at h
    · exact h
    · rename_i e
      try simp only [e]
      split at h
      · rename_i fn e1
        try simp only [e1]
        split at h
        · rename_i c e2
          try simp only [e2]
          split at h
          · rename_i e3
            try simp only [e3]
            unfold run at h ⊢
            have hw : E.ctx f (callN E fuel' n') = (E.ctx f (callN E fuel n)).with (callN E fuel' n') := rfl
            rw [hw, mono_finish]
            cases h1 : ev (E.ctx f (callN E fuel n)) fuel c { tmps := argsT 0 args, blocks := [], owns := [] } with
            | none => rw [h1] at h; simp [finish] at h
            | some x =>
              rw [h1] at h
              rw [mono_ev (C := E.ctx f (callN E fuel n)) (g := callN E fuel' n') (fun f a r h => callN_mono hfu (by omega) h) hfu h1]
              exact h
          · cases h
        · cases h
      · cases h

end Go.VM
