/- errors.As and errors.Is at a *api.Spot and at an api.Code. -/
import Derived.Test.YtjmcgdhekjkjfaaDoorSF
import Derived.Below
import Derived.LaidEql
import Derived.OneCell
import Derived.Test.YtjmcgdhekjkjfaaDoorSA
import Derived.Test.YtjmcgdhekjkjfaaDoorVMU
import Derived.Test.YtjmcgdhekjkjfaaDoorSE
set_option linter.unusedSimpArgs false
set_option linter.unusedVariables false
namespace Go.Proofs.YtjmcgdhekjkjfaaDoor
open Go.RowKit Go.Extern.Stop Go.Stop Go.Extern

theorem As.typeOfC (v : Value) (w : World) : (ReflectliteType.typeOf #[.iface 36 v]).run Tryd.prog w = .ok (.iface 189 (.agg #[.pointer (some ⟨8, 36, none⟩)])) w := by kernel_rfl
theorem As.assignableC (w : World) : (ReflectliteType.relation "AssignableTo" ReflectliteType.assignableTo #[.agg #[.pointer (some ⟨8, 36, none⟩)], .iface 189 (.agg #[.pointer (some ⟨8, 105, none⟩)])]).run Tryd.prog w = .ok (.bool false) w := by kernel_rfl
theorem As.noAsC (v : Value) (xT : TypeId) (w : World) : (Instr.typeAssert (.iface 36 v) xT 193 true).run Tryd.prog w = .ok (.tuple #[.nilIface, .bool false]) w := run_typeAssert_lacksB Tryd.underlying193 (by kernel_rfl) (by kernel_rfl) v xT w
theorem As.noUnwrapC (v : Value) (xT : TypeId) (w : World) : (Instr.typeAssert (.iface 36 v) xT 196 true).run Tryd.prog w = .ok (.tuple #[.nilIface, .bool false]) w := run_typeAssert_lacksB Tryd.underlying196 (by kernel_rfl) (by kernel_rfl) v xT w
theorem As.noUnwrapsC (v : Value) (xT : TypeId) (w : World) : (Instr.typeAssert (.iface 36 v) xT 198 true).run Tryd.prog w = .ok (.tuple #[.nilIface, .bool false]) w := run_typeAssert_lacksB Tryd.underlying198 (by kernel_rfl) (by kernel_rfl) v xT w
theorem As.noIsC (v : Value) (xT : TypeId) (w : World) : (Instr.typeAssert (.iface 36 v) xT 201 true).run Tryd.prog w = .ok (.tuple #[.nilIface, .bool false]) w := run_typeAssert_lacksB Tryd.underlying201 (by kernel_rfl) (by kernel_rfl) v xT w
theorem As.noIsS (v : Value) (xT : TypeId) (w : World) : (Instr.typeAssert (.iface 105 v) xT 201 true).run Tryd.prog w = .ok (.tuple #[.nilIface, .bool false]) w := run_typeAssert_lacksB Tryd.underlying201 (by kernel_rfl) (by kernel_rfl) v xT w
theorem As.hasUnwrapS (v : Value) (xT : TypeId) (w : World) : (Instr.typeAssert (.iface 105 v) xT 196 true).run Tryd.prog w = .ok (.tuple #[.iface 105 v, .bool true]) w := run_typeAssert_hasB Tryd.underlying196 (by kernel_rfl) v xT w
theorem As.methodUnwrap (v : Value) (w : World) : (Go.method 342 105 v "Unwrap").run Tryd.prog w = .ok (168, v) w := by kernel_rfl
theorem As.comparableC (w : World) : ((ReflectliteType.method fun t => do Rtype.noPackHeld "Comparable" t; (fun a => Value.bool a.comparable) <$> typeInfo t) #[.agg #[.pointer (some ⟨8, 36, none⟩)]]).run Tryd.prog w = .ok (.bool true) w := by kernel_rfl
theorem As.methodComparable (v : Value) (w : World) : (Go.method 342 189 v "Comparable").run Tryd.prog w = .ok (174, v) w := by kernel_rfl
theorem As.compC : (Tryd.prog.info? 36).map (·.comparable) = some true := by kernel_rfl

theorem As.eqlC (a b : Int) (w : World) : (binOp .eql 28 (.iface 36 (.int .i64 a)) (.iface 36 (.int .i64 b))).run Tryd.prog w = .ok (.bool (a == b)) w := by
  obtain ⟨i, hi, hcmp⟩ := Option.map_eq_some_iff.1 As.compC
  have h : ∀ d : Nat, (Op.equalIn (d + 2) 28 (.iface 36 (.int .i64 a)) (.iface 36 (.int .i64 b))).run Tryd.prog w = .ok (a == b) w := fun d => by
    simp [Op.equalIn, run_underlying Tryd.underlying28, run_underlying Tryd.underlying36, typeInfo, hi, hcmp]
  simp only [binOp]
  simp [Op.equal, Op.maxDepth, h 9998]

set_option maxHeartbeats 4000000 in
theorem as_miss (c : Int) (t : Addr) (old : Value) (w : World) (hg : w.cell? ⟨1, 0, none⟩ = some (.iface 189 (.agg #[.pointer (some ⟨8, 28, none⟩)]))) (ht0 : w.cell? t = some old) (hf0 : w.frozen? t = false) :
    Calls Tryd.prog 59 #[.iface 36 (.int .i64 c), .iface 107 (.pointer (some t))] w fun ev w' => ev = .returned (.bool false) ∧ w' = (((w.alloc (.cells #[.pointer (some t)] 107)).alloc (.cells #[.pointer (some ⟨8, 107, none⟩), .pointer (some ⟨w.heap.size, 0, none⟩), .int .u64 150] 158)).alloc (.cells #[.pointer (some ⟨8, 107, none⟩), .pointer (some ⟨w.heap.size, 0, none⟩), .int .u64 150] 158)) := by
  have h6 := @run_callFunc_extern Tryd.prog 99 _ (fun args => ReflectliteValue.unpack (args.getD 0 (.tuple #[]))) Tryd.func99 (by kernel_rfl) (by kernel_rfl) (by kernel_rfl) (by kernel_rfl)
  have h7 := @run_callFunc_extern Tryd.prog 100 _ (ReflectliteValue.methodAny (ReflectliteValue.valueError "reflectlite.Value.Type" 0) (fun t _ _ _ => ReflectliteType.toType t)) Tryd.func100 (by kernel_rfl) (by kernel_rfl) (by kernel_rfl) (by kernel_rfl)
  have h8 := @run_callFunc_extern Tryd.prog 101 _ (ReflectliteValue.method (ReflectliteValue.valueError "reflectlite.Value.IsNil" 0) ReflectliteValue.isNil) Tryd.func101 (by kernel_rfl) (by kernel_rfl) (by kernel_rfl) (by kernel_rfl)
  have h27 := @run_callFunc_extern Tryd.prog 163 _ (ReflectliteType.abiMethod fun t => do pure (.int .u8 (← Rtype.kind t))) Tryd.func163 (by kernel_rfl) (by kernel_rfl) (by kernel_rfl) (by kernel_rfl)
  have h37 := @run_callFunc_extern Tryd.prog 175 _ (ReflectliteType.method ReflectliteType.elem) Tryd.func175 (by kernel_rfl) (by kernel_rfl) (by kernel_rfl) (by kernel_rfl)
  have h38 := @run_callFunc_extern Tryd.prog 176 _ (ReflectliteType.relation "Implements" ReflectliteType.implements_) Tryd.func176 (by kernel_rfl) (by kernel_rfl) (by kernel_rfl) (by kernel_rfl)
  have h10 := @run_callFunc_extern Tryd.prog 103 _ ReflectliteType.typeOf Tryd.func103 (by kernel_rfl) (by kernel_rfl) (by kernel_rfl) (by kernel_rfl)
  have h35 := @run_callFunc_extern Tryd.prog 173 _ (ReflectliteType.relation "AssignableTo" ReflectliteType.assignableTo) Tryd.func173 (by kernel_rfl) (by kernel_rfl) (by kernel_rfl) (by kernel_rfl)
  have h11 := @run_callFunc_extern Tryd.prog 130 _ (ReflectliteValue.method (ReflectliteValue.valueError "reflectlite.Value.Elem" 0) ReflectliteValue.elem) Tryd.func130 (by kernel_rfl) (by kernel_rfl) (by kernel_rfl) (by kernel_rfl)
  have h12 := @run_callFunc_extern Tryd.prog 131 _ ReflectliteValue.set Tryd.func131 (by kernel_rfl) (by kernel_rfl) (by kernel_rfl) (by kernel_rfl)
  have tO := As.typeOf25
  have mA := As.methodAssignableTo
  have a25 := As.assignable25
  have v25 := As.valueOf25
  have f6 := As.valueOf27
  have f7 := As.type27
  have mK := As.methodKind
  have mE := As.methodElem
  have mI := As.methodImplements
  have k27 := As.kind27
  have k25 := As.kind25
  have e27 := As.elem27
  have i25 := As.implements25
  have n8 := As.isNil27 ⟨w.heap.size, 0, none⟩ t ((w.alloc (.cells #[.pointer (some t)] 107)).alloc (.cells #[.pointer (some ⟨8, 107, none⟩), .pointer (some ⟨w.heap.size, 0, none⟩), .int .u64 150] 158)) (by simp)
  have hlt : 1 < w.heap.size := by
    rcases Nat.lt_or_ge 1 w.heap.size with h | h0
    · exact h
    · simp [World.cell?, Array.getElem?_eq_none h0] at hg
  have hg2 : ((w.alloc (.cells #[.pointer (some t)] 107)).alloc (.cells #[.pointer (some ⟨8, 107, none⟩), .pointer (some ⟨w.heap.size, 0, none⟩), .int .u64 150] 158)).cell? ⟨1, 0, none⟩ = some (.iface 189 (.agg #[.pointer (some ⟨8, 28, none⟩)])) := by
    rw [World.cell?_alloc_lt _ _ ⟨1, 0, none⟩ (by simp; omega), World.cell?_alloc_lt _ _ ⟨1, 0, none⟩ hlt]; exact hg
  have htl : t.block < w.heap.size := by
    rcases Nat.lt_or_ge t.block w.heap.size with h | h
    · exact h
    · simp [World.cell?, Array.getElem?_eq_none h] at ht0
  have el := As.elemV27 ⟨w.heap.size, 0, none⟩ t (((w.alloc (.cells #[.pointer (some t)] 107)).alloc (.cells #[.pointer (some ⟨8, 107, none⟩), .pointer (some ⟨w.heap.size, 0, none⟩), .int .u64 150] 158)).alloc (.cells #[.pointer (some ⟨8, 107, none⟩), .pointer (some ⟨w.heap.size, 0, none⟩), .int .u64 150] 158)) (by rw [World.cell?_alloc_lt _ _ ⟨w.heap.size, 0, none⟩ (by simp; omega)]; simp)
  have tC := As.typeOfC
  have aC := As.assignableC
  have n1 := As.noAsC
  have n2 := As.noUnwrapC
  have n3 := As.noUnwrapsC
  go_enter Tryd.func59, Tryd.ntmps59
  go_wp2
  refine wp_loop_rounds 1 ?_
  rw [rounds_succ]
  go_wp2
  go_ret
  exact ⟨rfl, rfl⟩

set_option maxRecDepth 100000 in
set_option maxHeartbeats 4000000 in
/-- errors.Is(a *api.Spot, an api.Code). -/
theorem is_spot (pb po : Nat) (c' c : Int) (w : World) (h1 : w.cell? ⟨pb, po + 1, none⟩ = some (.iface 36 (.int .i64 c'))) :
    Calls Tryd.prog 60 #[.iface 105 (.pointer (some ⟨pb, po, none⟩)), .iface 36 (.int .i64 c)] w fun e w' => e = .returned (.bool (c' == c)) ∧ w' = w := by
  have h8 := @run_callFunc_extern Tryd.prog 103 _ ReflectliteType.typeOf Tryd.func103 (by kernel_rfl) (by kernel_rfl) (by kernel_rfl) (by kernel_rfl)
  have h32 := @run_callFunc_extern Tryd.prog 174 _ (ReflectliteType.method fun t => do Rtype.noPackHeld "Comparable" t; pure (.bool (← typeInfo t).comparable)) Tryd.func174 (by kernel_rfl) (by kernel_rfl) (by kernel_rfl) (by kernel_rfl)
  have tT := As.typeOfC
  have cT := As.comparableC
  have mR := As.methodComparable
  have nE := As.noIsC
  have uE := As.noUnwrapC
  have vE := As.noUnwrapsC
  have nW := As.noIsS
  have uW := As.hasUnwrapS
  have mU := As.methodUnwrap
  have heq := As.eqlC c' c
  have hty := run_eql_iface_types (P := Tryd.prog) 105 36 (.pointer (some ⟨pb, po, none⟩)) (.int .i64 c) Tryd.underlying28 (by decide) w
  by_cases hc : c' = c
  · subst hc
    rw [beq_self_eq_true] at heq ⊢
    go_enter Tryd.func60, Tryd.ntmps60
    go_wp2
    refine wp_loop_rounds 2 ?_
    rw [rounds_succ]
    go_wp2
    rw [rounds_succ]
    go_wp2
    go_ret
    exact ⟨rfl, rfl⟩
  · rw [beq_eq_false_iff_ne.2 hc] at heq ⊢
    go_enter Tryd.func60, Tryd.ntmps60
    go_wp2
    refine wp_loop_rounds 2 ?_
    rw [rounds_succ]
    go_wp2
    rw [rounds_succ]
    go_wp2
    go_ret
    exact ⟨rfl, rfl⟩
end Go.Proofs.YtjmcgdhekjkjfaaDoor

/- What the law's Is hands back. -/
set_option linter.unusedSimpArgs false
set_option linter.unusedVariables false
namespace Go.Proofs.YtjmcgdhekjkjfaaDoor
open Go.RowKit Go.Extern.Stop Go.Stop Go.Extern

theorem As.spotComp : (Tryd.prog.info? 105).map (·.comparable) = some true := by kernel_rfl
theorem As.spotInfo : (Tryd.prog.info? 109).isSome = true := by kernel_rfl

set_option maxRecDepth 100000 in
set_option maxHeartbeats 4000000 in
theorem is0_nil (p c : Int) (w : World) :
    Calls Tryd.prog 16 #[.nilIface, .int .i64 p, .int .i64 c] w fun e w' => e = .returned (.bool false) ∧ w' = w.alloc (.cells #[.pointer none] 105) := by
  go_enter Tryd.func16, Tryd.ntmps16
  go_wp2_with (first | (go_at_call 59; refine (as_nil _ _).mono ?_; rintro e w' ⟨rfl, rfl⟩))
  go_ret
  exact ⟨rfl, rfl⟩

set_option maxRecDepth 100000 in
set_option maxHeartbeats 4000000 in
theorem is0_code (k p c : Int) (w : World) (hg : w.cell? ⟨1, 0, none⟩ = some (.iface 189 (.agg #[.pointer (some ⟨8, 28, none⟩)]))) :
    Calls Tryd.prog 16 #[.iface 36 (.int .i64 k), .int .i64 p, .int .i64 c] w fun e w' => e = .returned (.bool false) ∧ Below w.heap.size w w' := by
  have hlt : 1 < w.heap.size := by
    rcases Nat.lt_or_ge 1 w.heap.size with h | h0
    · exact h
    · simp [World.cell?, Array.getElem?_eq_none h0] at hg
  have hgA : (w.alloc (.cells #[.pointer none] 105)).cell? ⟨1, 0, none⟩ = some (.iface 189 (.agg #[.pointer (some ⟨8, 28, none⟩)])) := by
    rw [World.cell?_alloc_lt _ _ ⟨1, 0, none⟩ hlt]; exact hg
  have htA : (w.alloc (.cells #[.pointer none] 105)).cell? ⟨w.heap.size, 0, none⟩ = some (.pointer none) := by simp
  have hfA : (w.alloc (.cells #[.pointer none] 105)).frozen? ⟨w.heap.size, 0, none⟩ = false := by simp
  go_enter Tryd.func16, Tryd.ntmps16
  go_wp2_with (first | (go_at_call 59; refine (as_miss _ _ (.pointer none) _ hgA htA hfA).mono ?_; rintro e w' ⟨rfl, rfl⟩))
  go_ret
  refine ⟨rfl, ?_⟩
  exact ((((Below.refl _ _).alloc (Nat.le_refl _) _).alloc (by simp) _).alloc (by simp; omega) _).alloc (by simp; omega) _

set_option maxRecDepth 100000 in
set_option maxHeartbeats 4000000 in
theorem as_hit2 (e t : Addr) (old : Value) (w0 w : World) (hB : Below w0.heap.size w0 w) (hBt : w0.heap.size ≤ t.block)
    (hg : w.cell? ⟨1, 0, none⟩ = some (.iface 189 (.agg #[.pointer (some ⟨8, 28, none⟩)]))) (ht0 : w.cell? t = some old) (hf0 : w.frozen? t = false) (hfree : ∀ W : World, w.heap.size ≤ W.heap.size → (∀ k, k < w.heap.size → W.heap[k]? = w.heap[k]?) → (W.setCell t (.pointer (some e))).cell? t = some (.pointer (some e))) :
    Calls Tryd.prog 59 #[.iface 105 (.pointer (some e)), .iface 107 (.pointer (some t))] w fun ev w' => ev = .returned (.bool true) ∧ Below w0.heap.size w0 w' ∧ w'.cell? t = some (.pointer (some e)) := by
  refine (as_hit e t old w hg ht0 hf0).mono ?_
  rintro ev w' ⟨rfl, rfl⟩
  have hs := hB.size
  refine ⟨rfl, Below.setCell ((((hB.alloc hs _).alloc (by simp; omega) _).alloc (by simp; omega) _).alloc (by simp; omega) _) hBt _, hfree _ (by simp; omega) (fun k hk => ?_)⟩
  rw [Below.heap_alloc _ _ _ (by simp; omega), Below.heap_alloc _ _ _ (by simp; omega), Below.heap_alloc _ _ _ (by simp; omega), Below.heap_alloc _ _ _ hk]

set_option maxRecDepth 100000 in
set_option maxHeartbeats 4000000 in
theorem is0_spot (pb po : Nat) (q k p c : Int) (w : World) (hg : w.cell? ⟨1, 0, none⟩ = some (.iface 189 (.agg #[.pointer (some ⟨8, 28, none⟩)])))
    (h0 : w.cell? ⟨pb, po, none⟩ = some (.int .i64 q)) (h1 : w.cell? ⟨pb, po + 1, none⟩ = some (.iface 36 (.int .i64 k))) :
    Calls Tryd.prog 16 #[.iface 105 (.pointer (some ⟨pb, po, none⟩)), .int .i64 p, .int .i64 c] w fun e w' => e = .returned (.bool (decide (q = p ∧ k = c))) ∧ Below w.heap.size w w' := by
  have hlt : 1 < w.heap.size := by
    rcases Nat.lt_or_ge 1 w.heap.size with h | h0
    · exact h
    · simp [World.cell?, Array.getElem?_eq_none h0] at hg
  have hpb : pb < w.heap.size := by
    rcases Nat.lt_or_ge pb w.heap.size with h | h2
    · exact h
    · simp [World.cell?, Array.getElem?_eq_none h2] at h0
  have hgA : (w.alloc (.cells #[.pointer none] 105)).cell? ⟨1, 0, none⟩ = some (.iface 189 (.agg #[.pointer (some ⟨8, 28, none⟩)])) := by
    rw [World.cell?_alloc_lt _ _ ⟨1, 0, none⟩ hlt]; exact hg
  have htA : (w.alloc (.cells #[.pointer none] 105)).cell? ⟨w.heap.size, 0, none⟩ = some (.pointer none) := by simp
  have hfA : (w.alloc (.cells #[.pointer none] 105)).frozen? ⟨w.heap.size, 0, none⟩ = false := by simp
  have hBA : Below w.heap.size w (w.alloc (.cells #[.pointer none] 105)) := (Below.refl _ _).alloc (Nat.le_refl _) _
  have hfr : ∀ W : World, (w.alloc (.cells #[.pointer none] 105)).heap.size ≤ W.heap.size → (∀ k, k < (w.alloc (.cells #[.pointer none] 105)).heap.size → W.heap[k]? = (w.alloc (.cells #[.pointer none] 105)).heap[k]?) →
      (W.setCell ⟨w.heap.size, 0, none⟩ (.pointer (some ⟨pb, po, none⟩))).cell? ⟨w.heap.size, 0, none⟩ = some (.pointer (some ⟨pb, po, none⟩)) := by
    intro W hW hk
    have h2 := hk w.heap.size (by simp)
    have h4 : W.heap[w.heap.size]? = some (.cells #[.pointer none] 105 (0, 0)) := h2.trans (show (w.heap.push _)[w.heap.size]? = _ from Array.getElem?_push_size ..)
    have h5 := one_setCell (u := .pointer (some ⟨pb, po, none⟩)) h4
    simp [World.cell?, h5]
  obtain ⟨i, hi, hcmp⟩ := Option.map_eq_some_iff.1 As.spotComp
  obtain ⟨j, hj⟩ := Option.isSome_iff_exists.1 As.spotInfo
  have heq := fun W : World => run_eql_iface_ptr_same (P := Tryd.prog) W ⟨pb, po, none⟩ Tryd.underlying28 Tryd.underlying105 hi hcmp hj
  have hne : ∀ W : World, (binOp .neq 28 (.iface 105 (.pointer (some ⟨pb, po, none⟩))) (.iface 105 (.pointer (some ⟨pb, po, none⟩)))).run Tryd.prog W = .ok (.bool false) W := fun W => by
    simp only [binOp]
    simp [Op.equal, Op.maxDepth, run_equalIn_iface_ptr_same W 9998 ⟨pb, po, none⟩ Tryd.underlying28 Tryd.underlying105 hi hcmp hj]
  by_cases hc : k = c
  · subst hc
    have hek := fun W : World => As.eqlC k k W
    simp only [beq_self_eq_true] at hek
    by_cases hq : q = p
    · subst hq
      rw [decide_eq_true (⟨rfl, rfl⟩ : q = q ∧ k = k)]
      have hbk : (k == k) = true := beq_self_eq_true k
      go_enter Tryd.func16, Tryd.ntmps16
      go_wp2_with (first
        | (go_at_call 59; refine (as_hit2 _ _ (.pointer none) w _ hBA (Nat.le_refl _) hgA htA hfA hfr).mono ?_; rintro e w' ⟨rfl, hB, hcell⟩; have hc0 := (hB.cell (p := ⟨pb, po, none⟩) hpb).trans h0; have hc1 := (hB.cell (p := ⟨pb, po + 1, none⟩) hpb).trans h1)
        | (go_at_call 60; refine (is_spot pb po k k _ hc1).mono ?_; rintro e w'' ⟨rfl, rfl⟩))
      go_ret
      exact ⟨rfl, hB⟩
    · rw [decide_eq_false (fun h : q = p ∧ k = k => hq h.1)]
      have hbk : (k == k) = true := beq_self_eq_true k
      have hbq : (q == p) = false := beq_eq_false_iff_ne.2 hq
      go_enter Tryd.func16, Tryd.ntmps16
      go_wp2_with (first
        | (go_at_call 59; refine (as_hit2 _ _ (.pointer none) w _ hBA (Nat.le_refl _) hgA htA hfA hfr).mono ?_; rintro e w' ⟨rfl, hB, hcell⟩; have hc0 := (hB.cell (p := ⟨pb, po, none⟩) hpb).trans h0; have hc1 := (hB.cell (p := ⟨pb, po + 1, none⟩) hpb).trans h1)
        | (go_at_call 60; refine (is_spot pb po k k _ hc1).mono ?_; rintro e w'' ⟨rfl, rfl⟩))
      go_ret
      exact ⟨rfl, hB⟩
  · rw [decide_eq_false (fun h : q = p ∧ k = c => hc h.2)]
    have hbk : (k == c) = false := beq_eq_false_iff_ne.2 hc
    go_enter Tryd.func16, Tryd.ntmps16
    go_wp2_with (first
      | (go_at_call 59; refine (as_hit2 _ _ (.pointer none) w _ hBA (Nat.le_refl _) hgA htA hfA hfr).mono ?_; rintro e w' ⟨rfl, hB, hcell⟩; have hc0 := (hB.cell (p := ⟨pb, po, none⟩) hpb).trans h0; have hc1 := (hB.cell (p := ⟨pb, po + 1, none⟩) hpb).trans h1)
      | (go_at_call 60; refine (is_spot pb po k c _ hc1).mono ?_; rintro e w'' ⟨rfl, rfl⟩))
    go_ret
    exact ⟨rfl, hB⟩
end Go.Proofs.YtjmcgdhekjkjfaaDoor

/- What the law's Is hands back, told to the machine over values. -/
set_option linter.unusedSimpArgs false
set_option linter.unusedVariables false
namespace Go.Proofs.YtjmcgdhekjkjfaaDoor
open Go Go.VM Go.RowKit

def isX : List V → Option Ret
  | [.d e, .d (.int .i64 p), .d (.int .i64 c)] => match e with
    | .nilifc => some ⟨[.d (.bool false)], []⟩
    | .ifc t x => match Nat.beq t 36, x with
      | true, .int .i64 _ => some ⟨[.d (.bool false)], []⟩
      | _, _ => match Nat.beq t 105, x with
        | true, .fp [.int .i64 q, .ifc u (.int .i64 k)] => match Nat.beq u 36 with
          | true => some ⟨[.d (.bool (decide (q = p ∧ k = c)))], []⟩
          | false => none
        | _, _ => none
    | _ => none
  | _ => none

/-- errors.errorType, laid. -/
def errT : List D := [.ifc 189 (.agg [.rt 8 28])]

theorem errT_cell {w : World} {own : Own} (h : RepC w own 1 0 errT) : w.cell? ⟨1, 0, none⟩ = some (.iface 189 (.agg #[.pointer (some ⟨8, 28, none⟩)])) := by
  obtain ⟨v, hc, hr⟩ := h 0 _ rfl
  have h1 := hc.cell
  simp only [Nat.add_zero] at h1
  rw [h1]
  cases hr with
  | ifc t v x hr =>
    cases hr with
    | agg arr cs hs h1 hr =>
      have h0 := hr 0 _ rfl
      have hs1 : arr.size = 1 := by simpa using hs
      generalize hv : arr.getD 0 undef = v0 at h0
      cases h0
      have : arr = #[.pointer (some ⟨8, 28, none⟩)] := by
        obtain ⟨l⟩ := arr
        match l, hs1, hv with
        | [x], _, hv => simp at hv; rw [hv]
      rw [this]

theorem three {l : Array Value} (h : l.size = 3) : ∃ a b c, l = #[a, b, c] := by
  obtain ⟨l⟩ := l
  match l, h with
  | [a, b, c], _ => exact ⟨a, b, c, rfl⟩

theorem is_sound {glob : Nat → Option (List D)} (hgl : glob 1 = some errT) (args : List V) (r : Ret) (h : isX args = some r) : Sound Tryd.prog glob 16 args r := by
  have hf : ∃ fn, Tryd.prog.funcs[(16 : Nat)]? = some fn ∧ (fn.name == "runtime.NumGoroutine") = false ∧ fn.body.isNone = false := ⟨_, Tryd.func16, by kernel_rfl, by kernel_rfl⟩
  unfold isX at h
  split at h
  rotate_left
  · cases h
  rename_i e p c
  have key : ∀ {cargs : Array Value} {w : World} {own : Own}, Given w own cargs [.d e, .d (.int .i64 p), .d (.int .i64 c)] → ∃ v, cargs = #[v, .int .i64 p, .int .i64 c] ∧ RepD w own v e := by
    intro cargs w own G
    obtain ⟨v0, v1, v2, rfl⟩ := three (by simpa using G.size)
    have h1 := (inv_int (G.rep 1 _ rfl)).1
    have h2 := (inv_int (G.rep 2 _ rfl)).1
    simp at h1 h2
    subst h1; subst h2
    exact ⟨v0, rfl, inv_d (G.rep 0 _ rfl)⟩
  split at h
  · cases h
    refine sound_bool hf fun cargs w own G hg => ?_
    obtain ⟨v, rfl, hv⟩ := key G
    cases hv
    refine (is0_nil p c w).mono ?_
    rintro e w' ⟨rfl, rfl⟩
    exact ⟨rfl, (Below.refl _ _).alloc (Nat.le_refl _) _⟩
  · rename_i t x
    split at h
    · rename_i hb
      cases h
      have ht := Nat.eq_of_beq_eq_true hb
      subst ht
      refine sound_bool hf fun cargs w own G hg => ?_
      obtain ⟨v, rfl, hv⟩ := key G
      cases hv with
      | ifc t v x hv =>
        cases hv
        exact is0_code _ p c w (errT_cell (hg _ _ hgl))
    · split at h
      · rename_i hb
        split at h
        · rename_i hb2
          cases h
          have ht : t = 105 := Nat.eq_of_beq_eq_true (by assumption)
          have hu := Nat.eq_of_beq_eq_true hb2
          subst ht; subst hu
          refine sound_bool hf fun cargs w own G hg => ?_
          obtain ⟨v, rfl, hv⟩ := key G
          cases hv with
          | ifc t v x hv =>
            obtain ⟨b, o, rfl, hc⟩ := inv_fp (.d _ _ hv : RepV w own (fun _ => none) _ _)
            obtain ⟨v0, c0, r0⟩ := hc 0 _ rfl
            obtain ⟨v1, c1, r1⟩ := hc 1 _ rfl
            cases r0
            cases r1 with
            | ifc t v x r1 =>
              cases r1
              exact is0_spot b o _ _ p c w (errT_cell (hg _ _ hgl)) (by simpa using c0.cell) c1.cell
        · cases h
      · cases h
  · cases h
end Go.Proofs.YtjmcgdhekjkjfaaDoor

/- What the law's Is hands back, whatever else is laid. -/
set_option linter.unusedSimpArgs false
set_option linter.unusedVariables false
namespace Go.Proofs.YtjmcgdhekjkjfaaDoor
open Go Go.VM
variable {G : GE}
set_option maxRecDepth 100000
set_option maxHeartbeats 4000000

/-- The law's Is is told apart. -/
def isExt : FuncId → List V → Option Ret := fun f args => match Nat.beq f 16 with | true => isX args | false => none

theorem u_Is_spot (hG : G.ext = isExt) (F n : Nat) (q k p c : Int) : callN (envG G) F (n+1) 16 [.d (spotD k q), .d (.int .i64 p), .d (.int .i64 c)] = some ⟨[.d (.bool (decide (q = p ∧ k = c)))], []⟩ := by
  rw [callN_succ]
  have : (envG G).ext 16 [.d (spotD k q), .d (.int .i64 p), .d (.int .i64 c)] = some ⟨[.d (.bool (decide (q = p ∧ k = c)))], []⟩ := by
    show G.ext _ _ = _
    rw [hG]; rfl
  rw [this]
theorem u_Is_err (hG : G.ext = isExt) (F n : Nat) (k p c : Int) : callN (envG G) F (n+1) 16 [.d (err k), .d (.int .i64 p), .d (.int .i64 c)] = some ⟨[.d (.bool false)], []⟩ := by
  rw [callN_succ]
  have : (envG G).ext 16 [.d (err k), .d (.int .i64 p), .d (.int .i64 c)] = some ⟨[.d (.bool false)], []⟩ := by
    show G.ext _ _ = _
    rw [hG]; rfl
  rw [this]
theorem u_Is_nil (hG : G.ext = isExt) (F n : Nat) (p c : Int) : callN (envG G) F (n+1) 16 [.d .nilifc, .d (.int .i64 p), .d (.int .i64 c)] = some ⟨[.d (.bool false)], []⟩ := by
  rw [callN_succ]
  have : (envG G).ext 16 [.d .nilifc, .d (.int .i64 p), .d (.int .i64 c)] = some ⟨[.d (.bool false)], []⟩ := by
    show G.ext _ _ = _
    rw [hG]; rfl
  rw [this]
end Go.Proofs.YtjmcgdhekjkjfaaDoor

/- What the law's told and same hand back. -/
set_option linter.unusedSimpArgs false
set_option linter.unusedVariables false
namespace Go.Proofs.YtjmcgdhekjkjfaaDoor
open Go Go.VM
variable {G : GE}
set_option maxRecDepth 100000
set_option maxHeartbeats 4000000

theorem t_told20 (hG : G.ext = isExt) (F n : Nat) (hF : 22 < F) (c p : Int) (h : (p = -1 ∧ c = 2) ∨ 0 ≤ p ∧ 1 ≤ c ∧ c ≤ 9) :
    callN (envG G) F (n+2) 20 [.d (atD c p), .d (.int .i64 c), .d (.int .i64 p)] = some ⟨[.d (.bool true)], []⟩ := by
  have k1 := t_Code (G := G) F n hF c
  have k2 := u_Is_spot (G := G) hG F n p c p c
  rw [decide_eq_true ⟨rfl, rfl⟩] at k2
  rw [callN_run (fn := Tryd.f20) rfl rfl rfl (by simp [Tryd.ntmps20])]
  generalize hC : (envG G).ctx 20 (callN (envG G) F (n+1)) (callP (envG G) F (n+1)) = C
  have htt : C.tt = (envG G).tt := by rw [← hC]; rfl
  have hlin : C.lin = [] := by rw [← hC]; rfl
  have hreg : C.reg = reg20 := by rw [← hC]; rfl
  have hcall : C.call = callN (envG G) F (n+1) := by rw [← hC]; rfl
  have hcallP : C.callP = callP (envG G) F (n+1) := by rw [← hC]; rfl
  unfold atD
  by_cases h0 : p < 0
  · rw [if_pos h0]
    rw [if_pos (by omega)] at k1
    unfold err at *
    simp [htt, hlin, hreg, reg20, hcall, hcallP, h0, k1]
  · rw [if_neg h0]
    unfold spotD err at *
    simp [htt, hlin, hreg, reg20, hcall, hcallP, h0, k2]

theorem t_same20 (F n : Nat) (a b c d a' b' c' d' : Int) (n1 n2 n3 m1 m2 m3 : Bool) (x y z x' y' z' : List Int) (l1 : x.length ≤ 140737488355328) (l2 : y.length ≤ 140737488355328) (l3 : z.length ≤ 140737488355328)
    (l4 : x'.length ≤ 140737488355328) (l5 : y'.length ≤ 140737488355328) (l6 : z'.length ≤ 140737488355328) :
    callN (envG G) F (n+1) 21 [.d (manD a b c d (.nums .u8 n1 x) (.nums .u8 n2 y) (.nums .u8 n3 z)), .d (manD a' b' c' d' (.nums .u8 m1 x') (.nums .u8 m2 y') (.nums .u8 m3 z'))] =
      some ⟨[.d (.bool (decide (a = a' ∧ b = b' ∧ c = c' ∧ d = d' ∧ x = x' ∧ y = y' ∧ z = z')))], []⟩ := by
  rw [callN_run (fn := Tryd.f21) rfl rfl rfl (by simp [Tryd.ntmps21])]
  generalize hC : (envG G).ctx 21 (callN (envG G) F (n)) (callP (envG G) F (n)) = C
  have htt : C.tt = (envG G).tt := by rw [← hC]; rfl
  have hlin : C.lin = [] := by rw [← hC]; rfl
  have hreg : C.reg = reg21 := by rw [← hC]; rfl
  have hcall : C.call = callN (envG G) F (n) := by rw [← hC]; rfl
  have hcallP : C.callP = callP (envG G) F (n) := by rw [← hC]; rfl
  unfold manD
  by_cases h1 : a = a'
  case neg => simp [htt, hlin, hreg, reg21, hcall, hcallP, h1]
  by_cases h2 : b = b'
  case neg => simp [htt, hlin, hreg, reg21, hcall, hcallP, h1, h2]
  by_cases h3 : c = c'
  case neg => simp [htt, hlin, hreg, reg21, hcall, hcallP, h1, h2, h3]
  by_cases h4 : d = d'
  case neg => simp [htt, hlin, hreg, reg21, hcall, hcallP, h1, h2, h3, h4]
  by_cases h5 : x = x'
  case neg => simp [htt, hlin, hreg, reg21, hcall, hcallP, h1, h2, h3, h4, h5, l1, l4]
  by_cases h6 : y = y'
  case neg => simp [htt, hlin, hreg, reg21, hcall, hcallP, h1, h2, h3, h4, h5, h6, l1, l4, l2, l5]
  subst h5; subst h6
  by_cases h7 : z = z'
  case neg => simp [htt, hlin, hreg, reg21, hcall, hcallP, h1, h2, h3, h4, h7, l1, l2, l3, l6]
  subst h7
  simp [htt, hlin, hreg, reg21, hcall, hcallP, h1, h2, h3, h4, l1, l2, l3]
end Go.Proofs.YtjmcgdhekjkjfaaDoor

/- What the reference's Reader.fail and Reader.length hand back. -/
set_option linter.unusedSimpArgs false
set_option linter.unusedVariables false
namespace Go.Proofs.YtjmcgdhekjkjfaaDoor
open Go Go.VM
variable {G : GE}
set_option maxRecDepth 100000
set_option maxHeartbeats 4000000

def rdr (nl : Bool) (b : List Int) (x y : Int) : Option Blk := some (.cells false [.d (.nums .u8 nl b), .d (.int .i64 x), .d (.int .i64 y)])

theorem t_rfail (F n : Nat) (nl : Bool) (b : List Int) (x y c p : Int) :
    callP (envG G) F (n+1) 97 [.ptr 0 0, .d (.int .i64 c), .d (.int .i64 p)] [rdr nl b x y] [] = some ⟨[], [], [rdr nl b c p], []⟩ := by
  unfold rdr
  rw [callP_run (fn := Tryd.f97) rfl rfl rfl (by simp [Tryd.ntmps97])]
  generalize hC : (envG G).ctx 97 (callN (envG G) F (n)) (callP (envG G) F (n)) = C
  have htt : C.tt = (envG G).tt := by rw [← hC]; rfl
  have hlin : C.lin = [] := by rw [← hC]; rfl
  have hreg : C.reg = reg97 := by rw [← hC]; rfl
  have hcall : C.call = callN (envG G) F (n) := by rw [← hC]; rfl
  have hcallP : C.callP = callP (envG G) F (n) := by rw [← hC]; rfl
  simp [htt, hlin, hreg, reg97, hcall, hcallP]

theorem loop_rlen {m : Nat} {C : Ctx} {F : Nat} (hC : (envG G).ctx 98 (callN (envG G) F (m)) (callP (envG G) F (m)) = C) {c : Code} (hc : loopAt 16 Tryd.f98 = some c) (b : List Int) (i q : Nat) (hb : ∀ c ∈ b, 0 ≤ c ∧ c < 256) (hq : q ≤ 3) (hi : i ≤ 1048577) (hin : i + 1 + q ≤ b.length) (nl : Bool) (x y : Int) :
    ∀ (u j k : Nat) (st : St), j + u = q → u < k →
      st.trim 1 [0, 1, 9, 10, 11] = ⟨[(0, .ptr 0 0), (1, .d (.int .i64 i)), (9, .d (.int .i64 q)), (10, .d (.int .i64 (beN b (i + 1) j))), (11, .d (.int .i64 ((j : Int) + 1)))], [rdr nl b x y], []⟩ →
      iter (ev C F c) 1 [0, 1, 9, 10, 11] [0, 1, 6, 7, 9, 10] k st = some (.exit 0, ⟨[(0, .ptr 0 0), (1, .d (.int .i64 i)), (9, .d (.int .i64 q)), (10, .d (.int .i64 (beN b (i + 1) q)))], [rdr nl b x y], []⟩) := by
  have htt : C.tt = (envG G).tt := by rw [← hC]; rfl
  have hlin : C.lin = [] := by rw [← hC]; rfl
  have hreg : C.reg = reg98 := by rw [← hC]; rfl
  have hcall : C.call = callN (envG G) F (m) := by rw [← hC]; rfl
  have hcallP : C.callP = callP (envG G) F (m) := by rw [← hC]; rfl
  have hlv_16 : C.live 16 = [0, 1, 9, 10, 11] := by rw [← hC]; rfl
  have hlv_100016 : C.live 100016 = [0, 1, 6, 7, 9, 10] := by rw [← hC]; rfl
  have hev : ∀ st, ev C F c st = ev C F ((loopAt 16 Tryd.f98).getD .skip) st := fun st => by rw [hc]; rfl
  unfold rdr
  intro u
  induction u with
  | zero =>
    intro j k st hj hk hst
    obtain ⟨k, rfl⟩ : ∃ j, k = j + 1 := ⟨k - 1, by omega⟩
    have e0 : ¬ ((j : Int) + 1 ≤ (q : Int)) := by omega
    have e0' : ((q : Int) < (j : Int) + 1) := by omega
    have hjq : j = q := by omega
    subst hjq
    rw [iter_eq, hst, hev]
    simp [loopAt, findLoop, Tryd.f98, htt, hlin, hreg, reg98, hcall, hcallP, hlv_16, hlv_100016, e0, e0']
  | succ u ih =>
    intro j k st hj hk hst
    obtain ⟨k, rfl⟩ : ∃ j, k = j + 1 := ⟨k - 1, by omega⟩
    have e0 : ((j : Int) + 1 ≤ (q : Int)) := by omega
    have e0' : ¬ ((q : Int) < (j : Int) + 1) := by omega
    have ra := byteAt_get (b := b) (i := i + 1 + j) (by omega)
    have h1 := beN_ok hb (i + 1) j
    have h2 := byteAt_ok hb (i + 1 + j)
    have hp : (256 : Int) ^ j ≤ 65536 := by
      have : j = 0 ∨ j = 1 ∨ j = 2 := by omega
      rcases this with rfl | rfl | rfl <;> decide
    have ih' := fun st h => ih (j + 1) k st (by omega) (by omega) h
    simp only [beN] at ih'
    have e1 : (j : Int) + 1 + 1 ≤ 9223372036854775807 := by omega
    have e2 : (-9223372036854775808 : Int) ≤ (j : Int) + 1 + 1 := by omega
    have e3 : 256 * beN b (i + 1) j ≤ 9223372036854775807 := by omega
    have e4 : (-9223372036854775808 : Int) ≤ 256 * beN b (i + 1) j := by omega
    have e5 : byteAt b (i + 1 + j) ≤ 9223372036854775807 := by omega
    have e6 : (-9223372036854775808 : Int) ≤ byteAt b (i + 1 + j) := by omega
    have e7 : 256 * beN b (i + 1) j + byteAt b (i + 1 + j) ≤ 9223372036854775807 := by omega
    have e8 : (-9223372036854775808 : Int) ≤ 256 * beN b (i + 1) j + byteAt b (i + 1 + j) := by omega
    have e9 : (i : Int) + ((j : Int) + 1) ≤ 9223372036854775807 := by omega
    have e10 : (-9223372036854775808 : Int) ≤ (i : Int) + ((j : Int) + 1) := by omega
    have e11 : (0 : Int) ≤ (i : Int) + ((j : Int) + 1) := by omega
    have n1 : ((i : Int) + ((j : Int) + 1)).toNat = i + 1 + j := by omega
    rw [iter_eq, hst, hev]
    generalize beN b (i + 1) j = v at *
    generalize byteAt b (i + 1 + j) = x at *
    simp [loopAt, findLoop, Tryd.f98, htt, hlin, hreg, reg98, hcall, hcallP, hlv_16, hlv_100016, e0, e0', e1, e2, e3, e4, e5, e6, e7, e8, e9, e10, e11, n1, ra]
    simp at ih'
    exact ih' _ (by simp)
end Go.Proofs.YtjmcgdhekjkjfaaDoor
