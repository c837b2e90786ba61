/- What the law's same hands back. -/
import Derived.Test.YtjmcgdhekjkjfaaSF
import Derived.Test.YtjmcgdhekjkjfaaSB
set_option linter.unusedSimpArgs false
set_option linter.unusedVariables false
namespace Go.Proofs.Ytjmcgdhekjkjfaa
open Go Go.VM
variable {G : GE}
set_option maxRecDepth 100000
set_option maxHeartbeats 4000000

def manD (a b c d : Int) (x y z : D) : D := .agg [.int .i64 a, .int .i64 b, .int .i64 c, .int .i64 d, x, y, z]

theorem t_same20 (F n : Nat) (a b c d a' b' c' d' : Int) (n1 n2 n3 m1 m2 m3 : Bool) (x y z x' y' z' : List Int) (l1 : x.length ≤ 140737488355328) (l2 : y.length ≤ 140737488355328) (l3 : z.length ≤ 140737488355328)
    (l4 : x'.length ≤ 140737488355328) (l5 : y'.length ≤ 140737488355328) (l6 : z'.length ≤ 140737488355328) :
    callN (envG G) F (n+1) 11 [.d (manD a b c d (.nums .u8 n1 x) (.nums .u8 n2 y) (.nums .u8 n3 z)), .d (manD a' b' c' d' (.nums .u8 m1 x') (.nums .u8 m2 y') (.nums .u8 m3 z'))] =
      some ⟨[.d (.bool (decide (a = a' ∧ b = b' ∧ c = c' ∧ d = d' ∧ x = x' ∧ y = y' ∧ z = z')))], []⟩ := by
  rw [callN_run (fn := Try.f11) rfl rfl rfl (by simp [Try.ntmps11])]
  generalize hC : (envG G).ctx 11 (callN (envG G) F (n)) (callP (envG G) F (n)) = C
  have htt : C.tt = (envG G).tt := by rw [← hC]; rfl
  have hlin : C.lin = [] := by rw [← hC]; rfl
  have hreg : C.reg = reg11 := by rw [← hC]; rfl
  have hcall : C.call = callN (envG G) F (n) := by rw [← hC]; rfl
  have hcallP : C.callP = callP (envG G) F (n) := by rw [← hC]; rfl
  unfold manD
  by_cases h1 : a = a'
  case neg => simp [htt, hlin, hreg, reg11, hcall, hcallP, h1]
  by_cases h2 : b = b'
  case neg => simp [htt, hlin, hreg, reg11, hcall, hcallP, h1, h2]
  by_cases h3 : c = c'
  case neg => simp [htt, hlin, hreg, reg11, hcall, hcallP, h1, h2, h3]
  by_cases h4 : d = d'
  case neg => simp [htt, hlin, hreg, reg11, hcall, hcallP, h1, h2, h3, h4]
  by_cases h5 : x = x'
  case neg => simp [htt, hlin, hreg, reg11, hcall, hcallP, h1, h2, h3, h4, h5, l1, l4]
  by_cases h6 : y = y'
  case neg => simp [htt, hlin, hreg, reg11, hcall, hcallP, h1, h2, h3, h4, h5, h6, l1, l4, l2, l5]
  subst h5; subst h6
  by_cases h7 : z = z'
  case neg => simp [htt, hlin, hreg, reg11, hcall, hcallP, h1, h2, h3, h4, h7, l1, l2, l3, l6]
  subst h7
  simp [htt, hlin, hreg, reg11, hcall, hcallP, h1, h2, h3, h4, l1, l2, l3]
end Go.Proofs.Ytjmcgdhekjkjfaa

/- The bytes of an element are bytes: no program in sight. -/
namespace Go.Proofs.Ytjmcgdhekjkjfaa
open Go Go.VM
set_option linter.unusedSimpArgs false
set_option linter.unusedVariables false

theorem sizeB_bytes {n : Nat} (h : n < 16777216) : ∀ c ∈ sizeB n, 0 ≤ c ∧ c < 256 := by
  intro c hc
  unfold sizeB at hc
  split at hc
  · simp only [List.mem_singleton] at hc; omega
  · split at hc
    · simp only [List.mem_cons, List.not_mem_nil, or_false] at hc; omega
    · split at hc
      · simp only [List.mem_cons, List.not_mem_nil, or_false] at hc; omega
      · simp only [List.mem_cons, List.not_mem_nil, or_false] at hc; omega
mutual
theorem enc_bytes : ∀ x : Tlv, x.fine = true → x.bytesOk → x.enc.length < 16777216 → ∀ c ∈ x.enc, 0 ≤ c ∧ c < 256
  | .mk k t m bn b kn ks, hf, hb, hl => by
    simp only [Tlv.fine, Bool.and_eq_true, decide_eq_true_eq] at hf
    obtain ⟨⟨c0, c3, t0, t30, _, _⟩, hfl⟩ := hf
    simp only [Tlv.enc, headB, List.length_append, List.length_cons] at hl
    have hk := encL_bytes ks hfl hb.2 (by omega)
    have hs := sizeB_bytes (n := b.length + (Tlv.encL ks).length) (by omega)
    intro c hc
    simp only [Tlv.enc, headB, List.length_append, List.cons_append, List.mem_cons, List.mem_append] at hc
    rcases hc with rfl | hc | hc | hc
    · cases m <;> simp <;> omega
    · exact hs c hc
    · exact hb.1 c hc
    · exact hk c hc
theorem encL_bytes : ∀ l : List Tlv, Tlv.fineL l = true → Tlv.bytesOkL l → (Tlv.encL l).length < 16777216 → ∀ c ∈ Tlv.encL l, 0 ≤ c ∧ c < 256
  | [], _, _, _ => by simp [Tlv.encL]
  | x :: l, hf, hb, hl => by
    simp only [Tlv.fineL, Bool.and_eq_true] at hf
    simp only [Tlv.encL, List.length_append] at hl
    intro c hc
    simp only [Tlv.encL, List.mem_append] at hc
    rcases hc with hc | hc
    · exact enc_bytes x hf.1 hb.1 (by omega) c hc
    · exact encL_bytes l hf.2 hb.2 (by omega) c hc
end

theorem smallB_spec {v : Int} (h : inB v = true) : small (smallB v) = .inr v ∧ (smallB v).length ≤ 5 ∧ ∀ c ∈ smallB v, 0 ≤ c ∧ c < 256 := by
  simp only [inB, Bool.not_eq_true', decide_eq_false_iff_not] at h
  obtain ⟨ys, hy, _, hs, hl⟩ := numberOf_dig (m := v) (by omega) (by omega)
  have hb := numberOf_bytes hy
  unfold smallB
  rw [hy]
  exact ⟨hs, hl, hb⟩

theorem manT_ok {v0 v1 v2 v3 : Int} {n1 n2 n3 : Bool} {x y z : List Int} (h : manOk v0 v1 v2 v3 x y z = true) (hx : ∀ c ∈ x, 0 ≤ c ∧ c < 256) (hy : ∀ c ∈ y, 0 ≤ c ∧ c < 256) (hz : ∀ c ∈ z, 0 ≤ c ∧ c < 256) :
    (manT v0 v1 v2 v3 n1 n2 n3 x y z).fine = true ∧ (manT v0 v1 v2 v3 n1 n2 n3 x y z).depth ≤ 16 ∧ (manT v0 v1 v2 v3 n1 n2 n3 x y z).weight ≤ 1000 ∧ (manT v0 v1 v2 v3 n1 n2 n3 x y z).bytesOk ∧
    (manT v0 v1 v2 v3 n1 n2 n3 x y z).norm.man = some (manD v0 v1 v2 v3 (.nums .u8 false x) (.nums .u8 false y) (.nums .u8 false z)) := by
  simp only [manOk, Bool.and_eq_true, decide_eq_true_eq] at h
  obtain ⟨⟨⟨⟨h0, h1⟩, h2⟩, h3⟩, l1, l2, l3⟩ := h
  have s0 := smallB_spec h0
  have s1 := smallB_spec h1
  have s2 := smallB_spec h2
  have s3 := smallB_spec h3
  refine ⟨?_, ?_, ?_, ?_, ?_⟩
  · simp [manT, listT, numT, octT, Tlv.fine, Tlv.fineL]
  · simp [manT, listT, numT, octT, Tlv.depth, Tlv.depthL]
  · simp only [manT, listT, numT, octT, Tlv.weight, Tlv.weightL, List.length_nil]
    omega
  · exact ⟨by simp, ⟨s0.2.2, trivial⟩, ⟨s1.2.2, trivial⟩, ⟨s2.2.2, trivial⟩, ⟨s3.2.2, trivial⟩, ⟨hx, trivial⟩, ⟨hy, trivial⟩, ⟨hz, trivial⟩, trivial⟩
  · simp only [manT, listT, numT, octT, Tlv.norm, Tlv.normL, Tlv.man, Tlv.isSmall, Tlv.valS, Tlv.isBytes, Tlv.bodyD, smallOk, smallV, s0.1, s1.1, s2.1, s3.1]
    simp [l1, l2, l3, manD]
end Go.Proofs.Ytjmcgdhekjkjfaa

/- What the reference's NumberOf and SmallOf hand back. -/
set_option linter.unusedSimpArgs false
set_option linter.unusedVariables false
namespace Go.Proofs.Ytjmcgdhekjkjfaa
open Go Go.VM
variable {G : GE}
set_option maxRecDepth 100000
set_option maxHeartbeats 4000000

theorem loop_rnumof {m : Nat} {C : Ctx} {F : Nat} (hC : (envG G).ctx 26 (callN (envG G) F (m)) (callP (envG G) F (m)) = C) {c : Code} (hc : loopAt 2 Try.f26 = some c) (nl : Bool) (xs : List Int) (hx : xs.length ≤ 140737488355328) (os : List Pl) (hos : os = [] ∨ os = [.t 0]) :
    ∀ (ys : List Int) (i k : Nat) (st : St), xs.drop i = ys → i ≤ xs.length → ys.length < k → st.trim 0 [0, 4] = ⟨[(0, .d (.nums .u8 nl xs)), (4, .d (.int .i64 i))], [], os⟩ →
      iter (ev C F c) 0 [0, 4] [0, 2, 3, 4] k st = some (.exit 0, ⟨[(0, .d (.nums .u8 nl xs)), (4, .d (.int .i64 (i + lead ys : Nat)))], [], os⟩) := by
  have htt : C.tt = (envG G).tt := by rw [← hC]; rfl
  have hlin : C.lin = [23, 5, 39, 38, 3, 2, 19, 36] := by rw [← hC]; rfl
  have hreg : C.reg = reg26 := by rw [← hC]; rfl
  have hcall : C.call = callN (envG G) F (m) := by rw [← hC]; rfl
  have hcallP : C.callP = callP (envG G) F (m) := by rw [← hC]; rfl
  have hlv_2 : C.live 2 = [0, 4] := by rw [← hC]; rfl
  have hlv_100002 : C.live 100002 = [0, 2, 3, 4] := by rw [← hC]; rfl
  have hev : ∀ st, ev C F c st = ev C F ((loopAt 2 Try.f26).getD .skip) st := fun st => by rw [hc]; rfl
  intro ys
  induction ys with
  | nil =>
    intro i k st hd hi hk hst
    obtain ⟨k, rfl⟩ : ∃ j, k = j + 1 := ⟨k - 1, by simp at hk; omega⟩
    have h0 := drop_nil hd
    have e0 : ¬ ((i : Int) < (xs.length : Int)) := by omega
    rw [iter_eq, hst, hev]
    rcases hos with rfl | rfl <;> simp [loopAt, findLoop, Try.f26, htt, hlin, hreg, reg26, hcall, hcallP, hlv_2, hlv_100002, e0, lead]
  | cons b t ih =>
    intro i k st hd hi hk hst
    obtain ⟨k, rfl⟩ : ∃ j, k = j + 1 := ⟨k - 1, by simp at hk; omega⟩
    simp at hk
    obtain ⟨ht, hlt⟩ := drop_succ hd
    have hb := at_of_drop hd
    have e0 : (i : Int) < (xs.length : Int) := by omega
    have e1 : (i : Int) + 1 ≤ 9223372036854775807 := by omega
    have e2 : (-9223372036854775808 : Int) ≤ (i : Int) + 1 := by omega
    rw [iter_eq, hst, hev]
    by_cases h : b = 0
    · subst h
      have ih' := fun st h => ih (i + 1) k st ht (by omega) hk h
      rw [show i + 1 + lead t = i + (lead t + 1) by omega] at ih'
      simp at ih'
      rcases hos with rfl | rfl
      · simp [loopAt, findLoop, Try.f26, htt, hlin, hreg, reg26, hcall, hcallP, hlv_2, hlv_100002, e0, hb, e1, e2, lead]
        exact ih' _ (by simp)
      · simp [loopAt, findLoop, Try.f26, htt, hlin, hreg, reg26, hcall, hcallP, hlv_2, hlv_100002, e0, hb, e1, e2, lead]
        exact ih' _ (by simp)
    · rcases hos with rfl | rfl <;> simp [loopAt, findLoop, Try.f26, htt, hlin, hreg, reg26, hcall, hcallP, hlv_2, hlv_100002, e0, hb, h, lead]

theorem t_rNumberOf (F n : Nat) (nl : Bool) (xs : List Int) (hx : xs.length ≤ 140737488355327) (hf : xs.length < F) : callN (envG G) F (n+1) 26 [.d (.nums .u8 nl xs)] = some (match numberOf xs with
    | .inl e => ⟨[.d (.nums .u8 true []), .d (.int .i64 e)], [0]⟩
    | .inr ys => ⟨[.d (.nums .u8 false ys), .d (.int .i64 0)], [0]⟩) := by
  rw [callN_run (fn := Try.f26) rfl rfl rfl (by simp [Try.ntmps26])]
  generalize hC : (envG G).ctx 26 (callN (envG G) F (n)) (callP (envG G) F (n)) = C
  have htt : C.tt = (envG G).tt := by rw [← hC]; rfl
  have hlin : C.lin = [23, 5, 39, 38, 3, 2, 19, 36] := by rw [← hC]; rfl
  have hreg : C.reg = reg26 := by rw [← hC]; rfl
  have hcall : C.call = callN (envG G) F (n) := by rw [← hC]; rfl
  have hcallP : C.callP = callP (envG G) F (n) := by rw [← hC]; rfl
  have hlv_2 : C.live 2 = [0, 4] := by rw [← hC]; rfl
  have hlv_100002 : C.live 100002 = [0, 2, 3, 4] := by rw [← hC]; rfl
  have hL := fun os hos st h => loop_rnumof (G := G) hC rfl nl xs (by omega) os hos xs 0 F st rfl (by omega) hf h
  simp only [Nat.zero_add] at hL
  have hs := strip_len xs
  have hle := lead_le xs
  have e1 : (lead xs : Int) ≤ xs.length := by omega
  unfold numberOf
  clear hC
  simp [htt, hlin, hreg, reg26, hcall, hcallP, hlv_2, hlv_100002, ev_loop]
  rw [hL [] (.inl rfl) _ (by simp)]
  cases hsx : strip xs with
  | nil =>
    simp [htt, hlin, hreg, reg26, hcall, hcallP, hlv_2, hlv_100002, hsx, e1, drop_lead]
  | cons b t =>
    rw [hsx] at hs
    simp at hs
    have e6 : t.length + 1 ≤ 140737488355328 := by omega
    have e8 : t.length ≤ 140737488355327 := by omega
    by_cases h1 : 64 < t.length + 1
    · have e5 : (64 : Int) < (t.length : Int) + 1 := by omega
      simp [htt, hlin, hreg, reg26, hcall, hcallP, hlv_2, hlv_100002, hsx, e1, drop_lead, h1, e5, e6, e8]
    · have e5 : ¬ ((64 : Int) < (t.length : Int) + 1) := by omega
      have e2 : ¬ ((t.length : Int) + 1 = 0) := by omega
      have e7 : 1 + (t.length + 1) ≤ 140737488355328 := by omega
      by_cases h2 : 128 ≤ b
      · have h2' : 127 < b := by omega
        simp [htt, hlin, hreg, reg26, hcall, hcallP, hlv_2, hlv_100002, hsx, e1, drop_lead, h1, e5, e6, e2, h2, h2', e7, e8]
      · have h2' : ¬ 127 < b := by omega
        simp [htt, hlin, hreg, reg26, hcall, hcallP, hlv_2, hlv_100002, hsx, e1, drop_lead, h1, e5, e6, e2, h2, h2', e7, e8]
end Go.Proofs.Ytjmcgdhekjkjfaa

/- What the reference's SmallOf hands back. -/
set_option linter.unusedSimpArgs false
set_option linter.unusedVariables false
namespace Go.Proofs.Ytjmcgdhekjkjfaa
open Go Go.VM
variable {G : GE}
set_option maxRecDepth 100000
set_option maxHeartbeats 4000000

theorem loop_rsmof {m : Nat} {C : Ctx} {F : Nat} (hC : (envG G).ctx 16 (callN (envG G) F (m)) (callP (envG G) F (m)) = C) {c : Code} (hc : loopAt 4 Try.f16 = some c) :
    ∀ (f : Nat) (v : Int) (acc : List Int) (nl : Bool) (os : List Pl) (k : Nat) (st : St), (os = [] ∨ os = [.t 4]) → 0 ≤ v → v < 256 ^ f → f < k → f ≤ 4 → acc.length ≤ 10 - f →
      st.trim 0 [0, 4] = ⟨[(0, .d (.int .i64 v)), (4, .d (.nums .u8 nl acc))], [], os⟩ →
      iter (ev C F c) 0 [0, 4] [2, 3, 4] k st = some (.exit 0, ⟨[(4, .d (.nums .u8 (nl && decide (v ≤ 0)) (dig f v acc)))], [], if 0 < v then [.t 4] else os⟩) := by
  have htt : C.tt = (envG G).tt := by rw [← hC]; rfl
  have hlin : C.lin = [24, 23, 3, 2, 16] := by rw [← hC]; rfl
  have hreg : C.reg = reg16 := by rw [← hC]; rfl
  have hcall : C.call = callN (envG G) F (m) := by rw [← hC]; rfl
  have hcallP : C.callP = callP (envG G) F (m) := by rw [← hC]; rfl
  have hlv_4 : C.live 4 = [0, 4] := by rw [← hC]; rfl
  have hlv_100004 : C.live 100004 = [2, 3, 4] := by rw [← hC]; rfl
  have hev : ∀ st, ev C F c st = ev C F ((loopAt 4 Try.f16).getD .skip) st := fun st => by rw [hc]; rfl
  intro f
  induction f with
  | zero =>
    intro v acc nl os k st hos h0 hm hk hf ha hst
    obtain ⟨k, rfl⟩ : ∃ j, k = j + 1 := ⟨k - 1, by omega⟩
    have : v = 0 := by simp at hm; omega
    subst this
    rw [iter_eq, hst, hev]
    rcases hos with rfl | rfl <;> simp [loopAt, findLoop, Try.f16, htt, hlin, hreg, reg16, hcall, hcallP, hlv_4, hlv_100004, dig]
  | succ f ih =>
    intro v acc nl os k st hos h0 hm hk hf ha hst
    obtain ⟨k, rfl⟩ : ∃ j, k = j + 1 := ⟨k - 1, by omega⟩
    rw [iter_eq, hst, hev]
    by_cases hp : 0 < v
    · have hm2 : v < 4294967296 := by
        have : (256 : Int) ^ (f + 1) ≤ 256 ^ 4 := by
          have := Nat.pow_le_pow_right (n := 256) (by omega) hf
          exact_mod_cast this
        omega
      have q1 : v.tdiv 256 = v / 256 := Int.tdiv_eq_ediv_of_nonneg h0
      have q2 : v.tmod 256 = v % 256 := Int.tmod_eq_emod_of_nonneg h0
      have w1 : IntKind.i64.wrap (v / 256) = v / 256 := wrap_ok (by simp; omega) (by simp; omega)
      have w2 : IntKind.i64.wrap (v % 256) = v % 256 := wrap_ok (by simp; omega) (by simp; omega)
      have w3 : IntKind.u8.wrap (v % 256) = v % 256 := wrap_ok (by simp; omega) (by simp; omega)
      have hm3 : v / 256 < 256 ^ f := by
        rw [Int.pow_succ] at hm
        exact Int.ediv_lt_of_lt_mul (by omega) hm
      have l1 : 1 + acc.length ≤ 140737488355328 := by omega
      have l2 : acc.length ≤ 140737488355327 := by omega
      have ih' := fun st h => ih (v / 256) (v % 256 :: acc) false [.t 4] k st (.inr rfl) (by omega) hm3 (by omega) (by omega) (by simp; omega) h
      have hp' : ¬ v ≤ 0 := by omega
      simp at ih'
      rcases hos with rfl | rfl
      · simp [loopAt, findLoop, Try.f16, htt, hlin, hreg, reg16, hcall, hcallP, hlv_4, hlv_100004, hp, hp', q1, q2, w1, w2, w3, l1, l2, dig]
        exact ih' _ (by simp)
      · simp [loopAt, findLoop, Try.f16, htt, hlin, hreg, reg16, hcall, hcallP, hlv_4, hlv_100004, hp, hp', q1, q2, w1, w2, w3, l1, l2, dig]
        exact ih' _ (by simp)
    · have hp' : v ≤ 0 := by omega
      rcases hos with rfl | rfl <;> simp [loopAt, findLoop, Try.f16, htt, hlin, hreg, reg16, hcall, hcallP, hlv_4, hlv_100004, hp, hp', dig]

theorem t_rSmallOf (F n : Nat) (hF : 100 ≤ F) (m : Int) (h : -9223372036854775808 ≤ m ∧ m ≤ 9223372036854775807) : callN (envG G) F (n+2) 16 [.d (.int .i64 m)] = some (if m < 0 ∨ 2147483647 < m then ⟨[.d (.nums .u8 true []), .d (.int .i64 3)], [0]⟩ else
    ⟨[.d (.nums .u8 false (smallB m)), .d (.int .i64 0)], [0]⟩) := by
  rw [callN_run (fn := Try.f16) rfl rfl rfl (by simp [Try.ntmps16])]
  generalize hC : (envG G).ctx 16 (callN (envG G) F (n+1)) (callP (envG G) F (n+1)) = C
  have htt : C.tt = (envG G).tt := by rw [← hC]; rfl
  have hlin : C.lin = [24, 23, 3, 2, 16] := by rw [← hC]; rfl
  have hreg : C.reg = reg16 := by rw [← hC]; rfl
  have hcall : C.call = callN (envG G) F (n+1) := by rw [← hC]; rfl
  have hcallP : C.callP = callP (envG G) F (n+1) := by rw [← hC]; rfl
  have hlv_4 : C.live 4 = [0, 4] := by rw [← hC]; rfl
  have hlv_100004 : C.live 100004 = [2, 3, 4] := by rw [← hC]; rfl
  by_cases h0 : m < 0
  · simp [htt, hlin, hreg, reg16, hcall, hcallP, hlv_4, hlv_100004, h0]
  · by_cases h1 : 2147483647 < m
    · simp [htt, hlin, hreg, reg16, hcall, hcallP, hlv_4, hlv_100004, h0, h1]
    · have hd := dig_len 4 m []
      simp only [List.length_nil, Nat.zero_add] at hd
      have hL := fun st h => loop_rsmof (G := G) hC rfl 4 m [] true [] F st (.inl rfl) (by omega) (by omega) (by omega) (by omega) (by simp) h
      simp only [Bool.true_and] at hL
      clear hC
      obtain ⟨ys, hy, hy2, _⟩ := numberOf_dig (m := m) (by omega) (by omega)
      have a1 := t_rNumberOf (G := G) F n (decide (m ≤ 0)) (dig 4 m []) (by omega) (by omega)
      rw [hy2] at a1
      unfold smallB
      rw [hy]
      simp [htt, hlin, hreg, reg16, hcall, hcallP, hlv_4, hlv_100004, h0, h1, ev_loop]
      rw [hL _ (by simp)]
      by_cases hp : 0 < m <;> simp [htt, hlin, hreg, reg16, hcall, hcallP, hlv_4, hlv_100004, a1, hp]
end Go.Proofs.Ytjmcgdhekjkjfaa

/- What the reference's fine hands back. -/
set_option linter.unusedSimpArgs false
set_option linter.unusedVariables false
namespace Go.Proofs.Ytjmcgdhekjkjfaa
open Go Go.VM
variable {G : GE}
set_option maxRecDepth 100000
set_option maxHeartbeats 4000000

theorem loop_rfine {C : Ctx} {F m : Nat} (htt : C.tt = (envG G).tt) (hlin : C.lin = []) (hreg : C.reg = reg27) (hcall : C.call = callN (envG G) F m) {c : Code}
    (hc : loopAt 6 Try.f27 = some c) (p0 p1 p2 p3 : D) (nl : Bool) (a : List Tlv) (ha : a.length ≤ 140737488355328)
    (hg : ∀ x ∈ a, callN (envG G) F m 27 [.d (.agg x.cells)] = some ⟨[.d (.bool x.fine)], []⟩) :
    ∀ (us : List Tlv) (i k : Nat) (st : St), a.drop i = us → i ≤ a.length → us.length < k →
      st.trim 1 [1, 3] = ⟨[(1, .ptr 0 0), (3, .d (.int .i64 i))], [some (.cells false [.d p0, .d p1, .d p2, .d p3, .d (.sl 5 nl (Tlv.cellsL a))])], []⟩ →
      ∃ bs, iter (ev C F c) 1 [1, 3] [2] k st = if Tlv.fineL us then some (.exit 0, ⟨[], bs, []⟩) else some (.ret, ⟨[(2, .d (.bool false))], bs, []⟩) := by
  have hev : ∀ st, ev C F c st = ev C F ((loopAt 6 Try.f27).getD .skip) st := fun st => by rw [hc]; rfl
  intro us
  induction us with
  | nil =>
    intro i k st hd hi hk hst
    obtain ⟨k, rfl⟩ : ∃ j, k = j + 1 := ⟨k - 1, by simp at hk; omega⟩
    have h0 := drop_nil hd
    have e0 : ¬ ((i : Int) < (a.length : Int)) := by omega
    rw [iter_eq, hst, hev]
    simp [loopAt, findLoop, Try.f27, htt, hlin, hreg, reg27, e0, Tlv.fineL, cellsL_len]
  | cons x us ih =>
    intro i k st hd hi hk hst
    obtain ⟨k, rfl⟩ : ∃ j, k = j + 1 := ⟨k - 1, by simp at hk; omega⟩
    simp at hk
    obtain ⟨hd2, hlt⟩ := drop_succ hd
    have ra := cellsL_at hd
    have hx := hg x (List.mem_of_getElem? (at_of_drop hd))
    have e0 : (i : Int) < (a.length : Int) := by omega
    have e1 : (i : Int) + 1 ≤ 9223372036854775807 := by omega
    have e2 : (-9223372036854775808 : Int) ≤ (i : Int) + 1 := by omega
    rw [iter_eq, hst, hev]
    simp only [Tlv.fineL]
    have ih' := fun st h => ih (i + 1) k st hd2 (by omega) hk h
    obtain ⟨c1, t, md, bn, b, kx, ks⟩ := x
    simp only [Tlv.cells] at ra hx
    rcases Bool.eq_false_or_eq_true (Tlv.fine (.mk c1 t md bn b kx ks)) with hs | hs
    case inr =>
      rw [hs] at hx
      simp [loopAt, findLoop, Try.f27, htt, hlin, hreg, reg27, hcall, e0, e1, e2, ra, hx, hs, cellsL_len]
    case inl =>
      rw [hs] at hx
      simp [loopAt, findLoop, Try.f27, htt, hlin, hreg, reg27, hcall, e0, e1, e2, ra, hx, hs, cellsL_len]
      simp at ih'
      exact ih' _ (by simp)
end Go.Proofs.Ytjmcgdhekjkjfaa

/- What the reference's fine hands back, whole. -/
set_option linter.unusedSimpArgs false
set_option linter.unusedVariables false
namespace Go.Proofs.Ytjmcgdhekjkjfaa
open Go Go.VM
variable {G : GE}
set_option maxRecDepth 100000
set_option maxHeartbeats 4000000

theorem t_rfine (F : Nat) (hF : F ≤ 140737488355328) (B : Nat) (hB : B < F) : ∀ (d n : Nat) (x : Tlv), x.depth ≤ d → x.width B →
    callN (envG G) F (n + d) 27 [.d (.agg x.cells)] = some ⟨[.d (.bool x.fine)], []⟩ := by
  intro d
  induction d with
  | zero => intro n x hd; cases x; simp [Tlv.depth] at hd
  | succ d ih =>
    intro n x hd hw
    obtain ⟨c, t, m, bn, b, kn, ks⟩ := x
    simp only [Tlv.depth] at hd
    simp only [Tlv.width] at hw
    have hkl : ks.length ≤ B := hw.2.1
    simp only [Tlv.cells]
    rw [show n + (d + 1) = n + d + 1 by omega]
    have hcl := cellsL_len ks
    rw [callN_run (fn := Try.f27) rfl rfl rfl (by simp [Try.ntmps27])]
    generalize hC : (envG G).ctx 27 (callN (envG G) F (n+d)) (callP (envG G) F (n+d)) = C
    have htt : C.tt = (envG G).tt := by rw [← hC]; rfl
    have hlin : C.lin = [] := by rw [← hC]; rfl
    have hreg : C.reg = reg27 := by rw [← hC]; rfl
    have hcall : C.call = callN (envG G) F (n+d) := by rw [← hC]; rfl
    have hcallP : C.callP = callP (envG G) F (n+d) := by rw [← hC]; rfl
    have hlv_6 : C.live 6 = [1, 3] := by rw [← hC]; rfl
    have hlv_100006 : C.live 100006 = [2] := by rw [← hC]; rfl
    have hL0 := fun st h => loop_rfine (G := G) htt hlin hreg hcall rfl (.int .i64 c) (.int .i64 t) (.bool m) (.nums .u8 bn b) kn ks (by omega)
      (fun x hx => ih n x (by have := depthL_mem hx; omega) (widthL_mem hw.2.2 hx)) ks 0 F st rfl (by omega) (by omega) h
    have hL := fun st h => Classical.choose_spec (hL0 st h)
    clear hC ih
    simp only [Tlv.fine]
    by_cases h1 : c < 0
    · rw [decide_eq_false (by omega)]
      simp [htt, hlin, hreg, reg27, hcall, hcallP, hlv_6, hlv_100006, h1]
    by_cases h2 : 3 < c
    · rw [decide_eq_false (by omega)]
      simp [htt, hlin, hreg, reg27, hcall, hcallP, hlv_6, hlv_100006, h1, h2]
    by_cases h3 : t < 0
    · rw [decide_eq_false (by omega)]
      simp [htt, hlin, hreg, reg27, hcall, hcallP, hlv_6, hlv_100006, h1, h2, h3]
    by_cases h4 : 30 < t
    · rw [decide_eq_false (by omega)]
      simp [htt, hlin, hreg, reg27, hcall, hcallP, hlv_6, hlv_100006, h1, h2, h3, h4]
    cases m with
    | true =>
      by_cases h5 : b = []
      · subst h5
        rw [decide_eq_true ⟨by omega, by omega, by omega, by omega, by simp, by simp⟩, Bool.true_and]
        rcases Bool.eq_false_or_eq_true (Tlv.fineL ks) with hf | hf
        · simp only [hf, if_true] at hL ⊢
          simp at hL
          simp [htt, hlin, hreg, reg27, hcall, hcallP, hlv_6, hlv_100006, h1, h2, h3, h4, ev_loop]
          rw [hL _ (by simp)]
          simp [htt, hlin, hreg, reg27, hcall, hcallP, hlv_6, hlv_100006]
        · simp only [hf, Bool.false_eq_true, if_false] at hL ⊢
          simp at hL
          simp [htt, hlin, hreg, reg27, hcall, hcallP, hlv_6, hlv_100006, h1, h2, h3, h4, ev_loop]
          rw [hL _ (by simp)]
          simp [htt, hlin, hreg, reg27, hcall, hcallP, hlv_6, hlv_100006]
      · rw [decide_eq_false (fun h => h5 (h.2.2.2.2.1 rfl))]
        have h6 : 0 < b.length := by
          have : b.length ≠ 0 := fun h => h5 (List.length_eq_zero_iff.1 h)
          omega
        simp [htt, hlin, hreg, reg27, hcall, hcallP, hlv_6, hlv_100006, h1, h2, h3, h4, h6]
    | false =>
      by_cases h5 : ks = []
      · subst h5
        rw [decide_eq_true ⟨by omega, by omega, by omega, by omega, by simp, by simp⟩, Bool.true_and]
        simp only [Tlv.fineL, if_true] at hL ⊢
        simp [Tlv.cellsL] at hL
        simp [htt, hlin, hreg, reg27, hcall, hcallP, hlv_6, hlv_100006, h1, h2, h3, h4, ev_loop, Tlv.cellsL]
        rw [hL _ (by simp)]
        simp [htt, hlin, hreg, reg27, hcall, hcallP, hlv_6, hlv_100006]
      · rw [decide_eq_false (fun h => h5 (h.2.2.2.2.2 rfl))]
        have h6 : 0 < ks.length := by
          have : ks.length ≠ 0 := fun h => h5 (List.length_eq_zero_iff.1 h)
          omega
        simp [htt, hlin, hreg, reg27, hcall, hcallP, hlv_6, hlv_100006, h1, h2, h3, h4, h6, hcl]
end Go.Proofs.Ytjmcgdhekjkjfaa
