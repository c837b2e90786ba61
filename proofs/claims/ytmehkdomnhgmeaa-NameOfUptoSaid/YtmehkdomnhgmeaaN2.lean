/- An element that came in. -/
import Derived.Test.YtmehkdomnhgmeaaT55
import Derived.Test.YtmehkdomnhgmeaaN1
import Derived.Test.YtmehkdomnhgmeaaVMT
import Derived.Test.YtmehkdomnhgmeaaRows
namespace Go.Proofs.Ytmehkdomnhgmeaa
open Go Go.VM Go.RowKit
set_option linter.unusedVariables false
set_option linter.unusedSimpArgs false

mutual
theorem upto_bulk {H : Type} : ∀ d : DataW H, Rows.uptoBulk d = bulk d
  | .lit l => by cases l <;> rfl
  | .nil => rfl
  | .ptr d => by simp only [Rows.uptoBulk, bulk, upto_bulk d]
  | .slice e s => by simp only [Rows.uptoBulk, bulk, upto_bulkAll e, upto_bulkAll s]
  | .agg p => by simp only [Rows.uptoBulk, bulk, upto_bulkAll p]
  | .iface t d => by simp only [Rows.uptoBulk, bulk, upto_bulk d]
  | .map es => by simp only [Rows.uptoBulk, bulk, upto_bulkEs es]
  | .held h => rfl
theorem upto_bulkAll {H : Type} : ∀ l : List (DataW H), Rows.uptoBulkAll l = bulkAll l
  | [] => rfl
  | d :: l => by simp only [Rows.uptoBulkAll, bulkAll, upto_bulk d, upto_bulkAll l]
theorem upto_bulkEs {H : Type} : ∀ l : List (Lit × DataW H), Rows.uptoBulkEntries l = bulkEntries l
  | [] => rfl
  | x :: l => by simp only [Rows.uptoBulkEntries, bulkEntries, upto_bulkE x, upto_bulkEs l]
theorem upto_bulkE {H : Type} : ∀ x : Lit × DataW H, Rows.uptoBulkEntry x = bulkEntry x
  | (l, d) => by cases l <;> simp only [Rows.uptoBulkEntry, bulkEntry, upto_bulk d]
end

theorem tlvs_of {B : Nat} : ∀ xs : List (List D), (∀ c ∈ xs, ∃ x : Tlv, x.cells = c ∧ x.width B ∧ x.bytesOk) → ∃ ks : List Tlv, Tlv.cellsL ks = xs ∧ Tlv.widthL B ks ∧ Tlv.bytesOkL ks
  | [], _ => ⟨[], rfl, trivial, trivial⟩
  | c :: xs, h => by
    obtain ⟨x, h1, h2, h3⟩ := h c (by simp)
    obtain ⟨ks, g1, g2, g3⟩ := tlvs_of xs (fun c hc => h c (by simp [hc]))
    exact ⟨x :: ks, by simp only [Tlv.cellsL, h1, g1], ⟨h2, g2⟩, ⟨h3, g3⟩⟩

theorem fit_int {B f t : Nat} {k : IntKind} {i : TI} (ht : env.tt t = some i) (hk : i.k = .int k) {ds : List D} (h : Fit env.tt B f t ds) : ∃ n, ds = [.int k n] ∧ k.wrap n = n := by
  cases f with
  | zero => exact h.elim
  | succ f => simp only [Fit, ht, hk] at h; exact h
theorem fit_bool {B f t : Nat} {i : TI} (ht : env.tt t = some i) (hk : i.k = .bool) {ds : List D} (h : Fit env.tt B f t ds) : ∃ b, ds = [.bool b] := by
  cases f with
  | zero => exact h.elim
  | succ f => simp only [Fit, ht, hk] at h; exact h
theorem fit_nums {B f t e : Nat} {k : IntKind} {i j : TI} (ht : env.tt t = some i) (hk : i.k = .slice e) (he : env.tt e = some j) (hj : j.k = .int k) {ds : List D} (h : Fit env.tt B f t ds) :
    ∃ nl xs, ds = [.nums k nl xs] ∧ (nl = true → xs = []) ∧ xs.length ≤ B ∧ ∀ x ∈ xs, k.wrap x = x := by
  cases f with
  | zero => exact h.elim
  | succ f => simp only [Fit, ht, hk, he, hj] at h; exact h

theorem tlv_of_fit (B : Nat) : ∀ (f : Nat) (ds : List D), Fit env.tt B f 62 ds → ∃ x : Tlv, x.cells = ds ∧ x.width B ∧ x.bytesOk := by
  intro f
  induction f using Nat.strongRecOn with
  | ind f ih =>
    intro ds h
    cases f with
    | zero => exact h.elim
    | succ f =>
      simp only [Fit, show env.tt 62 = some ⟨.struct [(0, 3), (1, 3), (2, 4), (3, 22), (4, 60)], 5, 72, [(.int .i64 0), (.int .i64 0), (.bool false), (.nums .u8 true []), (.sl 5 true [])], false, true⟩ from rfl] at h
      obtain ⟨hl, hp⟩ := h
      match ds, hl, hp with
      | [a, b, c, d, e], _, hp =>
        obtain ⟨_, q0, p0⟩ := hp (0, 3) (by simp)
        obtain ⟨_, q1, p1⟩ := hp (1, 3) (by simp)
        obtain ⟨_, q2, p2⟩ := hp (2, 4) (by simp)
        obtain ⟨_, q3, p3⟩ := hp (3, 22) (by simp)
        obtain ⟨_, q4, p4⟩ := hp (4, 60) (by simp)
        cases q0; cases q1; cases q2; cases q3; cases q4
        obtain ⟨n0, r0, _⟩ := fit_int (k := .i64) rfl rfl p0
        obtain ⟨n1, r1, _⟩ := fit_int (k := .i64) rfl rfl p1
        obtain ⟨b2, r2⟩ := fit_bool rfl rfl p2
        obtain ⟨nl, xs, r3, _, w3, v3⟩ := fit_nums (k := .u8) rfl rfl rfl rfl p3
        cases f with
        | zero => exact p4.elim
        | succ f =>
          have p4' : ∃ nl xs, [e] = [.sl 5 nl xs] ∧ (nl = true → xs = []) ∧ xs.length ≤ B ∧ ∀ c ∈ xs, c.length = 5 ∧ Fit env.tt B f 62 c := p4
          obtain ⟨kn, ks, r4, _, w4, v4⟩ := p4'
          obtain ⟨us, g1, g2, g3⟩ := tlvs_of ks (fun c hc => ih f (by omega) c (v4 c hc).2)
          simp at r0 r1 r2 r3 r4
          subst r0 r1 r2 r3 r4
          refine ⟨.mk n0 n1 b2 nl xs kn us, by simp only [Tlv.cells, g1], ⟨w3, ?_, g2⟩, ⟨fun c hc => ?_, g3⟩⟩
          · rw [← cellsL_len, g1]; exact w4
          · have := (wrap_iff .u8 c).1 (v3 c hc)
            simp [IntKind.min, IntKind.max, IntKind.bits, IntKind.signed] at this
            omega
end Go.Proofs.Ytmehkdomnhgmeaa
