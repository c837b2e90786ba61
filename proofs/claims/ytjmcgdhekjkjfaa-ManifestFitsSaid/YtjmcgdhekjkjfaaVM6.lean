/- The machine over values: types, operands, and the plain operations. -/
import Derived.Test.YtjmcgdhekjkjfaaVM5
set_option linter.unusedSimpArgs false
set_option linter.unusedVariables false
namespace Go.VM
open Go

def tkOk : TypeDesc → TK → Bool
  | .bool, .bool => true
  | .int k, .int k' => k == k'
  | .string, .str => true
  | .pointer _, .ptr => true
  | .slice e, .slice e' => e == e'
  | .struct fs, .struct gs => (fs.toList.map fun f => (f.offset, f.type)) == gs && fs.toList.all fun f => f.name != "_"
  | .array n e, .arr m e' => n == m && e == e'
  | .interface _, .iface => true
  | .func _ _ _, .fn => true
  | _, _ => false

def aggOk : Value → Bool → Bool
  | .agg _, b => b
  | _, b => !b

def fieldsOk (P : Program) : TypeDesc → Bool
  | .struct fs => fs.toList.all fun f => (P.info? f.type).isSome
  | _ => true

def oneOk (i : TI) : Bool :=
  match i.k with
  | .int k => i.size == 1 && (match i.zero with | [.int k' n] => k == k' && n == 0 | _ => false)
  | _ => true

/-- A row of the table says what the program's types say. -/
def tiOk (P : Program) (t : Nat) (i : TI) : Bool :=
  match P.info? t, P.underlying t with
  | some info, some d => info.size == i.size && info.bytes == i.bytes && tkOk d i.k && info.comparable == i.cmp && oneOk i &&
      (match info.zero with
      | some z => zcells z.cells.toList i.zero && aggOk z i.isAgg && i.zero.length == i.size && fieldsOk P d
      | none => false)
  | _, _ => false

/-- The table says what the program's types say; structs of it are told apart from the model's own, and hold no two nil errors to compare. -/
structure TOk (P : Program) (tt : Nat → Option TI) : Prop where
  row : ∀ t i, tt t = some i → tiOk P t i = true
  agg : ∀ t i, tt t = some i → i.isAgg = true → P.stoodInHeld t = false ∧ (i.eq = true → P.eqGuardType P.depth t = false)

structure Row (P : Program) (t : Nat) (i : TI) (info : TypeInfo) (d : TypeDesc) (z : Value) : Prop where
  hinfo : P.info? t = some info
  und : P.underlying t = some d
  size : info.size = i.size
  bytes : info.bytes = i.bytes
  tk : tkOk d i.k = true
  cmp : info.comparable = i.cmp
  zero : info.zero = some z
  zc : zcells z.cells.toList i.zero = true
  za : aggOk z i.isAgg = true
  zl : i.zero.length = i.size
  fl : fieldsOk P d = true
  so : oneOk i = true

theorem TOk.get {P : Program} {tt : Nat → Option TI} (T : TOk P tt) {t : Nat} {i : TI} (h : tt t = some i) : ∃ info d z, Row P t i info d z := by
  have := T.row t i h
  unfold tiOk at this
  cases h1 : P.info? t with
  | none => simp [h1] at this
  | some info =>
    cases h2 : P.underlying t with
    | none => simp [h1, h2] at this
    | some d =>
      cases h3 : info.zero with
      | none => simp [h1, h2, h3] at this
      | some z =>
        simp only [h1, h2, h3, Bool.and_eq_true, beq_iff_eq] at this
        obtain ⟨⟨⟨⟨⟨a, b⟩, c⟩, d'⟩, so⟩, ⟨⟨e, f⟩, g⟩, l⟩ := this
        exact ⟨info, d, z, h1, h2, a, b, c, d', h3, e, f, g, l, so⟩

section
variable {P : Program} {t : Nat} {i : TI} {info : TypeInfo} {d : TypeDesc} {z : Value}
theorem Row.run_und (r : Row P t i info d z) (w : World) : (underlying t).run P w = .ok d w := run_underlying r.und w
theorem Row.run_info (r : Row P t i info d z) (w : World) : (typeInfo t).run P w = .ok info w := by simp [typeInfo, r.hinfo]
theorem Row.run_size (r : Row P t i info d z) (w : World) : (sizeOf t).run P w = .ok i.size w := by simp [sizeOf, r.run_info, r.size]
theorem Row.run_zero (r : Row P t i info d z) (w : World) : (zeroValue t).run P w = .ok z w := by simp [zeroValue, r.run_info, r.zero]
theorem Row.slice {e : Nat} (r : Row P t i info d z) (h : i.k = .slice e) : d = .slice e := by
  have := r.tk; rw [h] at this; cases d <;> simp [tkOk] at this ⊢; exact this
theorem Row.arr {n e : Nat} (r : Row P t i info d z) (h : i.k = .arr n e) : d = .array n e := by
  have := r.tk; rw [h] at this; cases d <;> simp [tkOk] at this ⊢; exact this
theorem Row.int {k : IntKind} (r : Row P t i info d z) (h : i.k = .int k) : d = .int k := by
  have := r.tk; rw [h] at this; cases d <;> simp [tkOk] at this ⊢; exact this
theorem Row.one {k : IntKind} (r : Row P t i info d z) (h : i.k = .int k) : i.size = 1 := by
  have := r.so; simp only [oneOk, h, Bool.and_eq_true] at this; simpa using this.1
theorem Row.str (r : Row P t i info d z) (h : i.k = .str) : d = .string := by
  have := r.tk; rw [h] at this; cases d <;> simp [tkOk] at this ⊢
theorem Row.bool (r : Row P t i info d z) (h : i.k = .bool) : d = .bool := by
  have := r.tk; rw [h] at this; cases d <;> simp [tkOk] at this ⊢
theorem Row.struct {gs : List (Nat × Nat)} (r : Row P t i info d z) (h : i.k = .struct gs) :
    ∃ fs, d = .struct fs ∧ (fs.toList.map fun f => (f.offset, f.type)) = gs ∧ ∀ f ∈ fs.toList, f.name ≠ "_" := by
  have := r.tk; rw [h] at this; cases d <;> simp [tkOk] at this
  rename_i fs
  refine ⟨fs, rfl, this.1, fun f hf => ?_⟩
  obtain ⟨k, hk, e⟩ := List.mem_iff_getElem.1 hf
  have h2 := this.2 k (by simpa using hk)
  rw [← e]; simpa using h2
theorem Row.run_isAgg (r : Row P t i info d z) (w : World) : (isAgg t).run P w = .ok i.isAgg w := by
  have h := r.tk
  simp only [isAgg, Sem.run_bind, r.run_und, Result.andThen_ok]
  unfold TI.isAgg
  cases hk : i.k <;> rw [hk] at h <;> cases d <;> simp [tkOk] at h ⊢
end

-- ------------------------------------------------------------ constants

theorem zcell_sound {v : Value} {x : D} (h : zcell v x = true) (w : World) (own : Own) : RepD w own v x ∧ v.oneCell' = true := by
  unfold zcell at h
  split at h
  · simp at h; subst h; exact ⟨.bool _, rfl⟩
  · simp at h; obtain ⟨⟨rfl, rfl⟩, h⟩ := h; exact ⟨.int _ _ h, rfl⟩
  · have h0 := Nat.eq_of_beq_eq_true h
    exact ⟨.str _ _ (by rename_i s; have : s.data.toList = [] := List.eq_nil_of_length_eq_zero (by simpa using h0); simp [bytesI, this]) (by simp), rfl⟩
  · exact ⟨.numsNil _, rfl⟩
  · exact ⟨.slNil _, rfl⟩
  · exact ⟨.nilptr, rfl⟩
  · exact ⟨.nilifc, rfl⟩
  · exact ⟨.nilfn, rfl⟩
  · cases h

theorem zcell_int {v : Value} {k : IntKind} {n : Int} (h : zcell v (.int k n) = true) : v = .int k n := by
  have := (zcell_sound h default (fun _ => none)).1
  cases this; rfl

theorem Row.zeroInt {P : Program} {t : Nat} {i : TI} {info : TypeInfo} {d : TypeDesc} {z : Value} {k : IntKind} (r : Row P t i info d z) (h : i.k = .int k) : z.cells.getD 0 undef = .int k 0 := by
  have h1 := r.so
  simp only [oneOk, h, Bool.and_eq_true] at h1
  have h2 := h1.2
  split at h2
  · rename_i k' n hz
    rw [Bool.and_eq_true] at h2
    have e1 := eq_of_beq h2.1
    have e2 : n = 0 := by simpa using h2.2
    subst e1 e2
    have h3 := r.zc
    rw [hz] at h3
    have hl : z.cells.toList ≠ [] := fun e => by rw [e] at h3; simp [zcells] at h3
    obtain ⟨v, l, hv⟩ := List.exists_cons_of_ne_nil hl
    rw [hv] at h3
    simp only [zcells, Bool.and_eq_true] at h3
    have h4 := zcell_int h3.1
    have h5 : z.cells[0]? = some v := by rw [← Array.getElem?_toList, hv]; rfl
    have hlt := (Array.getElem?_eq_some_iff.1 h5).1
    rw [Array.getElem?_eq_getElem hlt] at h5
    simp only [Option.some.injEq] at h5
    simp [Array.getD, hlt, h5, h4]
  · cases h2

theorem zcells_sound : ∀ {vs : List Value} {xs : List D}, zcells vs xs = true → ∀ (w : World) (own : Own), vs.length = xs.length ∧
    ∀ (j : Nat) (x : D), xs[j]? = some x → RepD w own (vs.getD j undef) x ∧ (vs.getD j undef).oneCell' = true
  | [], [], _, w, own => ⟨rfl, fun j x h => by simp at h⟩
  | v :: vs, x :: xs, h, w, own => by
    simp only [zcells, Bool.and_eq_true] at h
    have ih := zcells_sound h.2 w own
    refine ⟨by simp [ih.1], fun j y hy => ?_⟩
    cases j with
    | zero => simp at hy; subst hy; exact zcell_sound h.1 w own
    | succ j => simpa using ih.2 j y (by simpa using hy)
  | [], _ :: _, h, _, _ => by simp [zcells] at h
  | _ :: _, [], h, _, _ => by simp [zcells] at h

theorem getD_toList (arr : Array Value) (j : Nat) : arr.toList.getD j undef = arr.getD j undef := by
  simp [Array.getD, List.getD]
  split <;> simp_all

/-- An aggregate of constants. -/
theorem zagg_sound {cs : Array Value} {xs : List D} (h : zcells cs.toList xs = true) (w : World) (own : Own) : RepD w own (.agg cs) (.agg xs) := by
  obtain ⟨h1, h2⟩ := zcells_sound h w own
  simp only [getD_toList, Array.length_toList] at h1 h2
  refine .agg cs xs h1 (fun j hj => ?_) (fun j x hx => (h2 j x hx).1)
  have : j < xs.length := by omega
  exact (h2 j xs[j] (by simp [this])).2

variable {C : Ctx} {st : St} {a : Act} {w : World} {own : Own} {β : Nat → Option Nat}

theorem absT_sound {tt : Nat → Option TI} {t : Nat} {v : Value} {x : D} (h : absT tt t v = some x) (w : World) (own : Own) : RepD w own v x := by
  unfold absT at h
  split at h
  · cases h; exact .bool _
  · rename_i k n
    cases hw : k.wrap n == n with
    | true => rw [hw] at h; cases h; exact .int _ _ (by simpa using hw)
    | false => rw [hw] at h; cases h
  · rename_i s
    cases hw : Nat.ble s.size 1000000 with
    | true =>
      rw [hw] at h; cases h
      refine .str _ _ rfl ?_
      have := Nat.le_of_ble_eq_true hw
      simp only [bytesI, List.length_map, Array.length_toList, maxLen]
      have e : s.data.size = s.size := rfl
      omega
    | false => rw [hw] at h; cases h
  · cases h; exact .nilptr
  · cases h; exact .nilifc
  · cases h; exact .nilfn
  · repeat' split at h
    all_goals first | (cases h; done) | (cases h; exact .numsNil _) | (cases h; exact .slNil _)
  · rename_i cs
    split at h
    · rename_i i _
      cases hz : zcells cs.toList i.zero with
      | true => rw [hz] at h; cases h; exact zagg_sound hz w own
      | false => rw [hz] at h; cases h
    · cases h
  · cases h

theorem evO_sound (R : Rel C st a w own β) {t : Nat} {x : Operand} {v : V} (h : evO C st t x = some v) : RepV w own β (a.eval x) v := by
  cases x with
  | tmp u => exact R.tmps u v h
  | const c =>
    simp only [evO] at h
    split at h
    · cases h; exact .d _ _ (absT_sound (by assumption) w own)
    · cases h
  | global g => cases h; exact .gp g 0
  | func f => cases h; exact .fn f #[] [] rfl (fun j x h => by simp at h)

-- ------------------------------------------------------------ an operation's end

/-- What an operation's end is to bring. -/
def Next (C : Ctx) (st : St) (w : World) (own : Own) (β : Nat → Option Nat) (N : Nat) (st' : St) (next : Act → World → Prop) : Prop :=
  ∀ a' w' own' β', Rel C st' a' w' own' β' → Ext w own w' own' → (∀ i, i < st.blocks.length → ∀ b, β i = some b → β' i = some b) → a'.tmps.size = N → next a' w'

theorem wp_value {P : Program} {o : Oper} {next : Act → World → Prop} {Q : Exit → Act → World → Prop} {v : Value} {w' : World}
    (h : (execOp a.eval o).run P w = .ok (.value v) w') (k : next (a.put o.dst v) w') : o.wp P a w next Q := by
  simp only [Oper.wp, h, Oper.upon]; exact k

theorem wp_nothing {P : Program} {o : Oper} {next : Act → World → Prop} {Q : Exit → Act → World → Prop} {w' : World}
    (h : (execOp a.eval o).run P w = .ok .skip w') (k : next (a.put o.dst undef) w') : o.wp P a w next Q := by
  simp only [Oper.wp, h, Oper.upon]; exact k

/-- The plain case: a value goes into the slot, the world stands. -/
theorem next_put (R : Rel C st a w own β) {next : Act → World → Prop} {dst : Option Nat} (hd : ∀ t, dst = some t → t < a.tmps.size) {v : Value} {x : V}
    (hv : RepV w own β v x) (hn : Next C st w own β a.tmps.size (st.put dst x) next) : next (a.put dst v) w :=
  hn _ _ _ _ (R.put hd hv) (Ext.refl w own) (fun _ _ _ h => h) (size_put a dst v)

end Go.VM
