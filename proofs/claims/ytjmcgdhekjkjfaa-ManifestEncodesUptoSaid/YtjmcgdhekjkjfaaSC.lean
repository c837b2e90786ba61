/- What der.deep hands back. -/
import Derived.Test.YtjmcgdhekjkjfaaSB
import Derived.Test.YtjmcgdhekjkjfaaSA
set_option linter.unusedSimpArgs false
set_option linter.unusedVariables false
namespace Go.Proofs.Ytjmcgdhekjkjfaa
open Go Go.VM
variable {G : GE}
set_option maxRecDepth 100000
set_option maxHeartbeats 4000000

theorem loop_ixP {C : Ctx} {F m g : Nat} (B : Blk) (hB : refsB (some B) = []) (hB2 : ∀ ρ, renB ρ (some B) = some (some B)) (hB3 : oldB 1 (some B) = some B) (htt : C.tt = (envG G).tt) (hlin : C.lin = []) (hreg : C.reg = reg44) (hcall : C.callP = callP (envG G) F m) {c : Code}
    (hc : loopAt 2 Try.f44 = some c) (nl : Bool) (a : List Tlv) (ha : a.length ≤ 140737488355328) (p : Tlv → Bool)
    (hg : ∀ x ∈ a, callP (envG G) F m g [.d (.agg x.cells), .ptr 0 0] [some B] [] = some ⟨[.d (.bool (p x))], [], [some B], []⟩) :
    ∀ (us : List Tlv) (i k : Nat) (st : St), a.drop i = us → i ≤ a.length → us.length < k →
      st.trim 1 [0, 1, 7, 8] = ⟨[(0, .d (.sl 5 nl (Tlv.cellsL a))), (1, .fn g [.ptr 0 0]), (7, .d (.int .i64 a.length)), (8, .d (.int .i64 i))], [some B], []⟩ →
      iter (ev C F c) 1 [0, 1, 7, 8] [4] k st = if 0 ≤ firstIx p i us then some (.ret, ⟨[(4, .d (.int .i64 (firstIx p i us)))], [some B], []⟩) else some (.exit 0, ⟨[], [some B], []⟩) := by
  have hev : ∀ st, ev C F c st = ev C F ((loopAt 2 Try.f44).getD .skip) st := fun st => by rw [hc]; rfl
  intro us
  induction us with
  | nil =>
    intro i k st hd hi hk hst
    obtain ⟨k, rfl⟩ : ∃ j, k = j + 1 := ⟨k - 1, by simp at hk; omega⟩
    have h0 := drop_nil hd
    have e0 : ¬ ((i : Int) < (a.length : Int)) := by omega
    rw [iter_eq, hst, hev]
    simp [loopAt, findLoop, Try.f44, htt, hlin, hreg, reg44, e0, firstIx]
  | cons x us ih =>
    intro i k st hd hi hk hst
    obtain ⟨k, rfl⟩ : ∃ j, k = j + 1 := ⟨k - 1, by simp at hk; omega⟩
    simp at hk
    obtain ⟨hd2, hlt⟩ := drop_succ hd
    have ra := cellsL_at hd
    have hx := hg x (List.mem_of_getElem? (at_of_drop hd))
    have l5 := cells_five x
    have e0 : (i : Int) < (a.length : Int) := by omega
    have e1 : (i : Int) + 1 ≤ 9223372036854775807 := by omega
    have e3 : (0 : Int) ≤ (i : Int) := by omega
    have e2 : (-9223372036854775808 : Int) ≤ (i : Int) + 1 := by omega
    have ih' := fun st h => ih (i + 1) k st hd2 (by omega) hk h
    rw [iter_eq, hst, hev]
    obtain ⟨c1, t, md, bn, b, kx, ks⟩ := x
    simp only [Tlv.cells] at ra hx
    cases hp : p (.mk c1 t md bn b kx ks) with
    | true =>
      rw [hp] at hx
      simp [loopAt, findLoop, Try.f44, htt, hlin, hreg, reg44, hcall, hB, hB2, hB3, e0, e1, e2, e3, ra, hx, firstIx, hp]
    | false =>
      rw [hp] at hx
      simp [loopAt, findLoop, Try.f44, htt, hlin, hreg, reg44, hcall, hB, hB2, hB3, e0, e1, e2, e3, ra, hx, firstIx, hp]
      exact ih' _ (by simp [hB3])

theorem firstIx_neg (p : Tlv → Bool) : ∀ (l : List Tlv) (i : Nat), ¬ (0 ≤ firstIx p i l) → firstIx p i l = -1
  | [], i, _ => rfl
  | x :: l, i, hi => by
    simp only [firstIx] at hi ⊢
    split at hi
    · omega
    · rename_i hn; rw [if_neg hn]; exact firstIx_neg p l _ hi

theorem t_ixP (F m g : Nat) (k0 : IntKind) (z : Int) (nl : Bool) (a : List Tlv) (ha : a.length ≤ 140737488355328) (hF : a.length < F) (p : Tlv → Bool)
    (hg : ∀ x ∈ a, callP (envG G) F m g [.d (.agg x.cells), .ptr 0 0] [some (.cells false [.d (.int k0 z)])] [] = some ⟨[.d (.bool (p x))], [], [some (.cells false [.d (.int k0 z)])], []⟩) :
    callP (envG G) F (m+1) 44 [.d (.sl 5 nl (Tlv.cellsL a)), .fn g [.ptr 0 0]] [some (.cells false [.d (.int k0 z)])] [] = some ⟨[.d (.int .i64 (firstIx p 0 a))], [], [some (.cells false [.d (.int k0 z)])], []⟩ := by
  rw [callP_run (fn := Try.f44) rfl rfl rfl (by simp [Try.ntmps44])]
  generalize hC : (envG G).ctx 44 (callN (envG G) F m) (callP (envG G) F m) = C
  have htt : C.tt = (envG G).tt := by rw [← hC]; rfl
  have hlin : C.lin = [] := by rw [← hC]; rfl
  have hreg : C.reg = reg44 := by rw [← hC]; rfl
  have hcall : C.callP = callP (envG G) F m := by rw [← hC]; rfl
  have hl1 : C.live 2 = [0, 1, 7, 8] := by rw [← hC]; rfl
  have hl2 : C.live 100002 = [4] := by rw [← hC]; rfl
  have hL := fun st h => loop_ixP (G := G) (.cells false [.d (.int k0 z)]) rfl (fun ρ => rfl) rfl htt hlin hreg hcall rfl nl a ha p hg a 0 F st rfl (by omega) hF h
  simp [htt, hlin, hreg, reg44, hcall, ev_loop, hl1, hl2, cellsL_len]
  rw [hL _ (by simp)]
  split
  · rename_i h; simp [htt, hlin, hreg, reg44]
  · rename_i h
    simp [htt, hlin, hreg, reg44, firstIx_neg p a 0 h]

theorem t_containsP (F m g : Nat) (k0 : IntKind) (z : Int) (nl : Bool) (a : List Tlv) (ha : a.length ≤ 140737488355328) (hF : a.length < F) (p : Tlv → Bool)
    (hg : ∀ x ∈ a, callP (envG G) F m g [.d (.agg x.cells), .ptr 0 0] [some (.cells false [.d (.int k0 z)])] [] = some ⟨[.d (.bool (p x))], [], [some (.cells false [.d (.int k0 z)])], []⟩) :
    callP (envG G) F (m+2) 41 [.d (.sl 5 nl (Tlv.cellsL a)), .fn g [.ptr 0 0]] [some (.cells false [.d (.int k0 z)])] [] = some ⟨[.d (.bool (a.any p))], [], [some (.cells false [.d (.int k0 z)])], []⟩ := by
  rw [callP_run (fn := Try.f41) rfl rfl rfl (by simp [Try.ntmps41])]
  generalize hC : (envG G).ctx 41 (callN (envG G) F (m+1)) (callP (envG G) F (m+1)) = C
  have htt : C.tt = (envG G).tt := by rw [← hC]; rfl
  have hlin : C.lin = [] := by rw [← hC]; rfl
  have hreg : C.reg = reg41 := by rw [← hC]; rfl
  have hcall : C.callP = callP (envG G) F (m+1) := by rw [← hC]; rfl
  have k1 := t_ixP (G := G) F m g k0 z nl a ha hF p hg
  rw [← firstIx_any p 0 a]
  simp [htt, hlin, hreg, reg41, hcall, k1]

def deepB (x : Tlv) (z : Int) : Bool := decide (z < x.depth)
theorem deepL_any (z : Int) (hz : 1 ≤ z) : ∀ l : List Tlv, (l.any fun k => deepB k (z - 1)) = decide (z - 1 < Tlv.depthL l)
  | [] => by
    have : ¬ (z - 1 < ((0 : Nat) : Int)) := by omega
    simp only [List.any_nil, Tlv.depthL, this, decide_false]
  | x :: l => by
    rw [List.any_cons, deepL_any z hz l]
    show (decide (z - 1 < (x.depth : Int)) || decide (z - 1 < (Tlv.depthL l : Int))) = decide (z - 1 < ((max x.depth (Tlv.depthL l) : Nat) : Int))
    by_cases h1 : z - 1 < (x.depth : Int)
    · have : z - 1 < ((max x.depth (Tlv.depthL l) : Nat) : Int) := by omega
      simp only [h1, this, decide_true, Bool.true_or]
    · by_cases h2 : z - 1 < (Tlv.depthL l : Int)
      · have : z - 1 < ((max x.depth (Tlv.depthL l) : Nat) : Int) := by omega
        simp only [h1, h2, this, decide_true, Bool.or_true]
      · have : ¬ (z - 1 < ((max x.depth (Tlv.depthL l) : Nat) : Int)) := by omega
        simp only [h1, h2, this, decide_false, Bool.or_false]

theorem t_deep1 (F m : Nat) (x : Tlv) (z : Int) (h1 : -9223372036854775808 ≤ z - 1) (h2 : z - 1 ≤ 9223372036854775807) (r : Bool) (h : callN (envG G) F m 35 [.d (.agg x.cells), .d (.int .i64 (z - 1))] = some ⟨[.d (.bool r)], []⟩) :
    callP (envG G) F (m+1) 43 [.d (.agg x.cells), .ptr 0 0] [some (.cells false [.d (.int .i64 z)])] [] = some ⟨[.d (.bool r)], [], [some (.cells false [.d (.int .i64 z)])], []⟩ := by
  obtain ⟨c, t, md, bn, b, kn, ks⟩ := x
  simp only [Tlv.cells] at h ⊢
  rw [callP_run (fn := Try.f43) rfl rfl rfl (by simp [Try.ntmps43])]
  generalize hC : (envG G).ctx 43 (callN (envG G) F m) (callP (envG G) F m) = C
  have htt : C.tt = (envG G).tt := by rw [← hC]; rfl
  have hlin : C.lin = [] := by rw [← hC]; rfl
  have hreg : C.reg = reg43 := by rw [← hC]; rfl
  have hcall : C.call = callN (envG G) F m := by rw [← hC]; rfl
  simp [htt, hlin, hreg, reg43, hcall, h, h1, h2]

theorem t_deep (F : Nat) (hF : F ≤ 140737488355328) (B : Nat) (hB : B < F) : ∀ (d n : Nat) (x : Tlv) (z : Int), x.depth ≤ d → x.width B → -9223372036854775808 ≤ z → z ≤ 9223372036854775807 →
    callN (envG G) F (n + 4 * d) 35 [.d (.agg x.cells), .d (.int .i64 z)] = some ⟨[.d (.bool (deepB x z))], []⟩ := by
  intro d
  induction d with
  | zero => intro n x z hd; cases x; simp [Tlv.depth] at hd
  | succ d ih =>
    intro n x z hd hw hz1 hz2
    obtain ⟨c, t, m, bn, b, kn, ks⟩ := x
    simp only [Tlv.depth] at hd
    simp only [Tlv.width] at hw
    rw [show n + 4 * (d + 1) = n + 4 * d + 3 + 1 by omega, callN_run (fn := Try.f35) rfl rfl rfl (by simp [Try.ntmps35])]
    generalize hC : (envG G).ctx 35 (callN (envG G) F (n + 4 * d + 3)) (callP (envG G) F (n + 4 * d + 3)) = C
    have htt : C.tt = (envG G).tt := by rw [← hC]; rfl
    have hlin : C.lin = [] := by rw [← hC]; rfl
    have hreg : C.reg = reg35 := by rw [← hC]; rfl
    have hcall : C.callP = callP (envG G) F (n + 4 * d + 3) := by rw [← hC]; rfl
    by_cases h1 : z < 1
    · have e : deepB (.mk c t m bn b kn ks) z = true := by
        have h2 : z < ((Tlv.depthL ks + 1 : Nat) : Int) := by omega
        unfold deepB
        exact decide_eq_true h2
      simp only [Tlv.cells]
      rw [e]
      simp [htt, hlin, hreg, reg35, hcall, h1]
    · have e : deepB (.mk c t m bn b kn ks) z = ks.any fun k => deepB k (z - 1) := by
        rw [deepL_any z (by omega)]
        simp only [deepB, Tlv.depth]
        congr 1
        apply propext
        omega
      have hk1 : ks.length ≤ B := hw.2.1
      have k1 := t_containsP (G := G) F (n + 4 * d + 1) 43 .i64 z kn ks (by omega) (by omega) (fun k => deepB k (z - 1)) (fun x hx =>
        t_deep1 (G := G) F (n + 4 * d) x z (by omega) (by omega) (deepB x (z - 1)) (ih n x (z - 1) (by have := depthL_mem hx; omega) (widthL_mem hw.2.2 hx) (by omega) (by omega)))
      simp only [Tlv.cells]
      rw [e]
      simp [htt, hlin, hreg, reg35, hcall, h1, k1]
end Go.Proofs.Ytjmcgdhekjkjfaa

/- What der.head hands back. -/
set_option linter.unusedSimpArgs false
set_option linter.unusedVariables false
namespace Go.Proofs.Ytjmcgdhekjkjfaa
open Go Go.VM
variable {G : GE}
set_option maxRecDepth 100000
set_option maxHeartbeats 4000000

def headN (n : Int) : Int := if n < 128 then 2 else if n < 256 then 3 else if n < 65536 then 4 else 5

theorem t_head (F n : Nat) (k : Int) : callN (envG G) F (n+1) 37 [.d (.int .i64 k)] = some ⟨[.d (.int .i64 (headN k))], []⟩ := by
  rw [callN_run (fn := Try.f37) rfl rfl rfl (by simp [Try.ntmps37])]
  generalize hC : (envG G).ctx 37 (callN (envG G) F n) (callP (envG G) F n) = C
  have htt : C.tt = (envG G).tt := by rw [← hC]; rfl
  have hlin : C.lin = [] := by rw [← hC]; rfl
  have hreg : C.reg = reg37 := by rw [← hC]; rfl
  simp [htt, hlin, hreg, reg37]
  unfold headN
  repeat (first | (simp only [condE_ite, decide_eq_true_eq]; split) | (simp [htt, hlin, hreg, reg37, *]))
end Go.Proofs.Ytjmcgdhekjkjfaa

/- What der.size hands back. -/
set_option linter.unusedSimpArgs false
set_option linter.unusedVariables false
namespace Go.Proofs.Ytjmcgdhekjkjfaa
open Go Go.VM
variable {G : GE}
set_option maxRecDepth 100000
set_option maxHeartbeats 4000000

mutual
/-- How many bytes: above 1048576 too many. -/
def Tlv.sizeN : Tlv → Int
  | .mk _ _ _ _ b _ ks => Tlv.sizeL ks b.length + headN (Tlv.sizeL ks b.length)
def Tlv.sizeL : List Tlv → Int → Int
  | [], n => n
  | x :: l, n => if n ≤ 1048576 then Tlv.sizeL l (n + x.sizeN) else n
end

theorem headN_le (n : Int) : 2 ≤ headN n ∧ headN n ≤ 5 := by unfold headN; split <;> (try split) <;> (try split) <;> omega
theorem sizeL_le {K S : Int} (hK : 1048576 + S ≤ K) : ∀ l : List Tlv, (∀ y ∈ l, 0 ≤ y.sizeN ∧ y.sizeN ≤ S) → ∀ n : Int, 0 ≤ n → n ≤ K → 0 ≤ Tlv.sizeL l n ∧ Tlv.sizeL l n ≤ K
  | [], _, n, h0, h1 => ⟨h0, h1⟩
  | x :: l, h, n, h0, h1 => by
    have hx := h x (by simp)
    simp only [Tlv.sizeL]
    split
    · exact sizeL_le hK l (fun y hy => h y (by simp [hy])) _ (by omega) (by omega)
    · exact ⟨h0, h1⟩
theorem sizeN_le {B : Nat} (hB : B ≤ 140737488355328) : ∀ (d : Nat) (x : Tlv), x.depth ≤ d → x.width B → 0 ≤ x.sizeN ∧ x.sizeN ≤ 140737488355328 + 2000000 * d := by
  intro d
  induction d with
  | zero => intro x hd; cases x; simp [Tlv.depth] at hd
  | succ d ih =>
    intro x hd hw
    obtain ⟨c, t, m, bn, b, kn, ks⟩ := x
    simp only [Tlv.depth] at hd
    simp only [Tlv.width] at hw
    have h1 := sizeL_le (K := 140737488355328 + 2000000 * d + 1048576) (S := 140737488355328 + 2000000 * d) (by omega) ks
      (fun y hy => ih y (by have := depthL_mem hy; omega) (widthL_mem hw.2.2 hy)) b.length (by omega) (by omega)
    have h2 := headN_le (Tlv.sizeL ks b.length)
    simp only [Tlv.sizeN]
    omega

theorem loop_size {C : Ctx} {F m B : Nat} (htt : C.tt = (envG G).tt) (hlin : C.lin = []) (hreg : C.reg = reg36) (hcall : C.call = callN (envG G) F m) {c : Code}
    (hc : loopAt 3 Try.f36 = some c) (p0 p1 p2 p3 : D) (nl : Bool) (a : List Tlv) (ha : a.length ≤ 140737488355328)
    (hg : ∀ x ∈ a, callN (envG G) F m 36 [.d (.agg x.cells)] = some ⟨[.d (.int .i64 x.sizeN)], []⟩) (hs : ∀ x ∈ a, 0 ≤ x.sizeN ∧ x.sizeN ≤ 4611686018427387904) :
    ∀ (us : List Tlv) (i k : Nat) (z : Int) (st : St), a.drop i = us → i ≤ a.length → us.length < k → 0 ≤ z →
      st.trim 1 [1, 3, 4] = ⟨[(1, .ptr 0 0), (3, .d (.int .i64 z)), (4, .d (.int .i64 i))], [some (.cells false [.d p0, .d p1, .d p2, .d p3, .d (.sl 5 nl (Tlv.cellsL a))])], []⟩ →
      iter (ev C F c) 1 [1, 3, 4] [2, 3] k st = some (.exit 0, ⟨[(3, .d (.int .i64 (Tlv.sizeL us z)))], [some (.cells false [.d p0, .d p1, .d p2, .d p3, .d (.sl 5 nl (Tlv.cellsL a))])], []⟩) := by
  have hev : ∀ st, ev C F c st = ev C F ((loopAt 3 Try.f36).getD .skip) st := fun st => by rw [hc]; rfl
  intro us
  induction us with
  | nil =>
    intro i k z st hd hi hk hz hst
    obtain ⟨k, rfl⟩ : ∃ j, k = j + 1 := ⟨k - 1, by simp at hk; omega⟩
    have h0 := drop_nil hd
    have e0 : ¬ ((i : Int) < (a.length : Int)) := by omega
    rw [iter_eq, hst, hev]
    simp [loopAt, findLoop, Try.f36, htt, hlin, hreg, reg36, e0, Tlv.sizeL, cellsL_len]
  | cons x us ih =>
    intro i k z st hd hi hk hz hst
    obtain ⟨k, rfl⟩ : ∃ j, k = j + 1 := ⟨k - 1, by simp at hk; omega⟩
    simp at hk
    obtain ⟨hd2, hlt⟩ := drop_succ hd
    have ra := cellsL_at hd
    have hxm := List.mem_of_getElem? (at_of_drop hd)
    have hx := hg x hxm
    have hsx := hs x hxm
    have e0 : (i : Int) < (a.length : Int) := by omega
    have e1 : (i : Int) + 1 ≤ 9223372036854775807 := by omega
    have e2 : (-9223372036854775808 : Int) ≤ (i : Int) + 1 := by omega
    rw [iter_eq, hst, hev]
    by_cases hm : z ≤ 1048576
    · have e3 : z + x.sizeN ≤ 9223372036854775807 := by omega
      have e4 : -9223372036854775808 ≤ z + x.sizeN := by omega
      have ih' := fun st h => ih (i + 1) k (z + x.sizeN) st hd2 (by omega) hk (by omega) h
      have es : Tlv.sizeL (x :: us) z = Tlv.sizeL us (z + x.sizeN) := by simp only [Tlv.sizeL, if_pos hm]
      rw [es]
      clear es
      obtain ⟨c1, t, md, bn, b, kx, ks⟩ := x
      simp only [Tlv.cells] at ra hx
      generalize Tlv.sizeN (.mk c1 t md bn b kx ks) = s at *
      simp [loopAt, findLoop, Try.f36, htt, hlin, hreg, reg36, hcall, e0, e1, e2, e3, e4, hm, ra, hx, cellsL_len]
      exact ih' _ (by simp)
    · have es : Tlv.sizeL (x :: us) z = z := by simp only [Tlv.sizeL, if_neg hm]
      rw [es]
      simp [loopAt, findLoop, Try.f36, htt, hlin, hreg, reg36, hcall, e0, hm, cellsL_len]

theorem t_size (F : Nat) (hF : F ≤ 140737488355328) (B : Nat) (hB : B < F) : ∀ (d n : Nat) (x : Tlv), d ≤ 1000000 → x.depth ≤ d → x.width B →
    callN (envG G) F (n + 2 * d) 36 [.d (.agg x.cells)] = some ⟨[.d (.int .i64 x.sizeN)], []⟩ := by
  intro d
  induction d with
  | zero => intro n x _ hd; cases x; simp [Tlv.depth] at hd
  | succ d ih =>
    intro n x hd0 hd hw
    have hb1 := sizeN_le (B := B) (by omega) (d + 1) x hd hw
    obtain ⟨c, t, m, bn, b, kn, ks⟩ := x
    simp only [Tlv.depth] at hd
    simp only [Tlv.width] at hw
    have hkl : ks.length ≤ B := hw.2.1
    have hbl : b.length ≤ B := hw.1
    have hh := fun k => t_head (G := G) F (n + 2 * d) k
    simp only [Tlv.cells]
    rw [show n + 2 * (d + 1) = n + 2 * d + 1 + 1 by omega, callN_run (fn := Try.f36) rfl rfl rfl (by simp [Try.ntmps36])]
    generalize hC : (envG G).ctx 36 (callN (envG G) F (n + 2 * d + 1)) (callP (envG G) F (n + 2 * d + 1)) = C
    have htt : C.tt = (envG G).tt := by rw [← hC]; rfl
    have hlin : C.lin = [] := by rw [← hC]; rfl
    have hreg : C.reg = reg36 := by rw [← hC]; rfl
    have hcall : C.call = callN (envG G) F (n + 2 * d + 1) := by rw [← hC]; rfl
    have hl1 : C.live 3 = [1, 3, 4] := by rw [← hC]; rfl
    have hl2 : C.live 100003 = [2, 3] := by rw [← hC]; rfl
    have hL := fun st h => loop_size (G := G) (B := B) htt hlin hreg hcall rfl (.int .i64 c) (.int .i64 t) (.bool m) (.nums .u8 bn b) kn ks (by omega)
      (fun x hx => by
        have := ih (n + 1) x (by omega) (by have := depthL_mem hx; omega) (widthL_mem hw.2.2 hx)
        rwa [show n + 1 + 2 * d = n + 2 * d + 1 by omega] at this)
      (fun x hx => by have := sizeN_le (B := B) (by omega) d x (by have := depthL_mem hx; omega) (widthL_mem hw.2.2 hx); omega) ks 0 F b.length st rfl (by omega) (by omega) (by omega) h
    simp only [Tlv.sizeN] at hb1 ⊢
    have h2 := headN_le (Tlv.sizeL ks b.length)
    generalize hsz : Tlv.sizeL ks (b.length : Int) = s at *
    have e3 : s + headN s ≤ 9223372036854775807 := by omega
    have e4 : -9223372036854775808 ≤ s + headN s := by omega
    simp [htt, hlin, hreg, reg36, hcall, ev_loop, hl1, hl2]
    rw [hL _ (by simp)]
    simp [htt, hlin, hreg, reg36, hcall, hh, e3, e4]
end Go.Proofs.Ytjmcgdhekjkjfaa

/- The reckoned size is the bytes' number: plain law. -/
set_option linter.unusedSimpArgs false
set_option linter.unusedVariables false
namespace Go.Proofs.Ytjmcgdhekjkjfaa
open Go Go.VM

theorem sizeB_len (n : Nat) (h : n < 16777216) : ((sizeB n).length : Int) + 1 = headN n := by
  unfold sizeB headN
  split
  · rw [if_pos (by omega)]; simp
  · split
    · rw [if_neg (by omega), if_pos (by omega)]; simp
    · split
      · rw [if_neg (by omega), if_neg (by omega), if_pos (by omega)]; simp
      · rw [if_neg (by omega), if_neg (by omega), if_neg (by omega)]; simp

theorem headN_pos (n : Int) : 2 ≤ headN n ∧ headN n ≤ 5 := headN_le n
mutual
theorem size_enc : ∀ x : Tlv, (x.enc.length ≤ 1048576 → x.sizeN = x.enc.length) ∧ (1048576 < x.enc.length → 1048576 < x.sizeN)
  | .mk c t m bn b kn ks => by
    have h := size_encL ks b.length (by omega)
    simp only [Tlv.sizeN, Tlv.enc, headB, List.length_append, List.length_cons]
    generalize hN : b.length + (Tlv.encL ks).length = N at *
    have hp := headN_pos (Tlv.sizeL ks b.length)
    by_cases hs : N ≤ 1048576
    · have e := h.1 (by omega)
      have hl := sizeB_len N (by omega)
      rw [e]
      have e2 : ((b.length : Int) + (Tlv.encL ks).length) = (N : Int) := by omega
      rw [e2]
      omega
    · have e := h.2 (by omega)
      omega
theorem size_encL : ∀ (l : List Tlv) (n : Int), 0 ≤ n → (n + (Tlv.encL l).length ≤ 1048576 → Tlv.sizeL l n = n + (Tlv.encL l).length) ∧ (1048576 < n + (Tlv.encL l).length → 1048576 < Tlv.sizeL l n)
  | [], n, h0 => by simp [Tlv.sizeL, Tlv.encL]
  | x :: l, n, h0 => by
    have hx := size_enc x
    simp only [Tlv.sizeL, Tlv.encL, List.length_append]
    by_cases hn : n ≤ 1048576
    · rw [if_pos hn]
      by_cases he : x.enc.length ≤ 1048576
      · have e := hx.1 he
        have := size_encL l (n + x.sizeN) (by omega)
        omega
      · have e := hx.2 (by omega)
        have hbig : ∀ (l : List Tlv) (m : Int), 1048576 < m → 1048576 < Tlv.sizeL l m := by
          intro l
          cases l with
          | nil => intro m hm; exact hm
          | cons y l => intro m hm; simp only [Tlv.sizeL]; rw [if_neg (by omega)]; exact hm
        have := hbig l (n + x.sizeN) (by omega)
        omega
    · rw [if_neg hn]
      omega
end
end Go.Proofs.Ytjmcgdhekjkjfaa

/- der.write: its loops over the elements within. -/
set_option linter.unusedSimpArgs false
set_option linter.unusedVariables false
namespace Go.Proofs.Ytjmcgdhekjkjfaa
open Go Go.VM
variable {G : GE}
set_option maxRecDepth 100000
set_option maxHeartbeats 4000000

theorem loop_wA {C : Ctx} {F m : Nat} (htt : C.tt = (envG G).tt) (hlin : C.lin = [88, 86, 76, 72, 58, 49, 42, 0, 4, 39, 45, 53, 65, 73, 1000086, 84]) (hreg : C.reg = reg25) (hcall : C.call = callN (envG G) F m) {c : Code}
    (hc : loopAt 6 Try.f25 = some c) (o p5 : D) (B : Blk) (hB : oldB 1 (some B) = some B) (nl : Bool) (a : List Tlv) (ha : a.length ≤ 140737488355328)
    (hg : ∀ x ∈ a, callN (envG G) F m 36 [.d (.agg x.cells)] = some ⟨[.d (.int .i64 x.sizeN)], []⟩) (hs : ∀ x ∈ a, x.sizeN = x.enc.length) :
    ∀ (us : List Tlv) (i k : Nat) (z : Int) (st : St), a.drop i = us → i ≤ a.length → us.length < k → 0 ≤ z → z + (Tlv.encL us).length ≤ 1048576 →
      st.trim 1 [0, 3, 5, 6, 28, 29, 30] = ⟨[(0, .d o), (3, .ptr 0 0), (5, .d p5), (6, .d (.int .i64 z)), (28, .d (.sl 5 nl (Tlv.cellsL a))), (29, .d (.int .i64 a.length)), (30, .d (.int .i64 i))], [some B], [.t 0]⟩ →
      iter (ev C F c) 1 [0, 3, 5, 6, 28, 29, 30] [0, 3, 4, 5, 6] k st = some (.exit 0, ⟨[(0, .d o), (3, .ptr 0 0), (5, .d p5), (6, .d (.int .i64 (z + (Tlv.encL us).length)))], [some B], [.t 0]⟩) := by
  have hev : ∀ st, ev C F c st = ev C F ((loopAt 6 Try.f25).getD .skip) st := fun st => by rw [hc]; rfl
  intro us
  induction us with
  | nil =>
    intro i k z st hd hi hk hz hzz hst
    obtain ⟨k, rfl⟩ : ∃ j, k = j + 1 := ⟨k - 1, by simp at hk; omega⟩
    have h0 := drop_nil hd
    have e0 : ¬ ((i : Int) < (a.length : Int)) := by omega
    rw [iter_eq, hst, hev]
    simp [loopAt, findLoop, Try.f25, htt, hlin, hreg, reg25, e0, Tlv.encL]
  | cons x us ih =>
    intro i k z st hd hi hk hz hzz hst
    obtain ⟨k, rfl⟩ : ∃ j, k = j + 1 := ⟨k - 1, by simp at hk; omega⟩
    simp at hk
    obtain ⟨hd2, hlt⟩ := drop_succ hd
    have ra := cellsL_at hd
    have hxm := List.mem_of_getElem? (at_of_drop hd)
    have hx := hg x hxm
    have hsx := hs x hxm
    have e0 : (i : Int) < (a.length : Int) := by omega
    have e1 : (i : Int) + 1 ≤ 9223372036854775807 := by omega
    have e2 : (-9223372036854775808 : Int) ≤ (i : Int) + 1 := by omega
    simp only [Tlv.encL, List.length_append] at hzz ⊢
    rw [hsx] at hx
    have e3 : z + (x.enc.length : Int) ≤ 9223372036854775807 := by omega
    have e4 : -9223372036854775808 ≤ z + (x.enc.length : Int) := by omega
    have ih' := fun st h => ih (i + 1) k (z + x.enc.length) st hd2 (by omega) hk (by omega) (by omega) h
    rw [iter_eq, hst, hev]
    have el : z + ((x.enc.length + (Tlv.encL us).length : Nat) : Int) = z + x.enc.length + (Tlv.encL us).length := by omega
    rw [el]
    obtain ⟨c1, t, md, bn, b, kx, ks⟩ := x
    simp only [Tlv.cells] at ra hx
    generalize Tlv.enc (.mk c1 t md bn b kx ks) = s at *
    simp [loopAt, findLoop, Try.f25, htt, hlin, hreg, reg25, hcall, e0, e1, e2, e3, e4, ra, hx]
    exact ih' _ (by simp [hB])

theorem loop_wC {C : Ctx} {F m : Nat} (htt : C.tt = (envG G).tt) (hlin : C.lin = [88, 86, 76, 72, 58, 49, 42, 0, 4, 39, 45, 53, 65, 73, 1000086, 84]) (hreg : C.reg = reg25) (hcall : C.callP = callP (envG G) F m) {c : Code}
    (hc : loopAt 21 Try.f25 = some c) (B : Blk) (hB : oldB 1 (some B) = some B) (nl : Bool) (a : List Tlv) (ha : a.length ≤ 140737488355328)
    (hg : ∀ x ∈ a, ∀ o : List Int, o.length + x.enc.length ≤ 2097152 → callP (envG G) F m 25 [.d (.nums .u8 false o), .d (.agg x.cells)] [] [.t 0] = some ⟨[.d (.nums .u8 false (o ++ x.enc))], [0], [], []⟩) :
    ∀ (us : List Tlv) (i k : Nat) (o : List Int) (st : St), a.drop i = us → i ≤ a.length → us.length < k → o.length + (Tlv.encL us).length ≤ 2097152 →
      st.trim 1 [0, 78, 79, 80] = ⟨[(0, .d (.nums .u8 false o)), (78, .d (.sl 5 nl (Tlv.cellsL a))), (79, .d (.int .i64 a.length)), (80, .d (.int .i64 i))], [some B], [.t 0]⟩ →
      iter (ev C F c) 1 [0, 78, 79, 80] [0, 4] k st = some (.exit 4, ⟨[(0, .d (.nums .u8 false (o ++ Tlv.encL us)))], [some B], [.t 0]⟩) := by
  have hev : ∀ st, ev C F c st = ev C F ((loopAt 21 Try.f25).getD .skip) st := fun st => by rw [hc]; rfl
  intro us
  induction us with
  | nil =>
    intro i k o st hd hi hk hzz hst
    obtain ⟨k, rfl⟩ : ∃ j, k = j + 1 := ⟨k - 1, by simp at hk; omega⟩
    have h0 := drop_nil hd
    have e0 : ¬ ((i : Int) < (a.length : Int)) := by omega
    rw [iter_eq, hst, hev]
    simp [loopAt, findLoop, Try.f25, htt, hlin, hreg, reg25, e0, Tlv.encL]
  | cons x us ih =>
    intro i k o st hd hi hk hzz hst
    obtain ⟨k, rfl⟩ : ∃ j, k = j + 1 := ⟨k - 1, by simp at hk; omega⟩
    simp at hk
    obtain ⟨hd2, hlt⟩ := drop_succ hd
    have ra := cellsL_at hd
    have hxm := List.mem_of_getElem? (at_of_drop hd)
    simp only [Tlv.encL, List.length_append] at hzz ⊢
    have hx := hg x hxm o (by omega)
    have e0 : (i : Int) < (a.length : Int) := by omega
    have e1 : (i : Int) + 1 ≤ 9223372036854775807 := by omega
    have e2 : (-9223372036854775808 : Int) ≤ (i : Int) + 1 := by omega
    have ih' := fun st h => ih (i + 1) k (o ++ x.enc) st hd2 (by omega) hk (by simp; omega) h
    rw [iter_eq, hst, hev]
    rw [← List.append_assoc]
    obtain ⟨c1, t, md, bn, b, kx, ks⟩ := x
    simp only [Tlv.cells] at ra hx
    generalize Tlv.enc (.mk c1 t md bn b kx ks) = s at *
    simp [loopAt, findLoop, Try.f25, htt, hlin, hreg, reg25, hcall, e0, e1, e2, ra, hx]
    simp at ih'
    exact ih' _ (by simp [hB])
end Go.Proofs.Ytjmcgdhekjkjfaa

/- What der.write hands back, of fine elements that are not too long. -/
set_option linter.unusedSimpArgs false
set_option linter.unusedVariables false
namespace Go.Proofs.Ytjmcgdhekjkjfaa
open Go Go.VM
variable {G : GE}
set_option maxRecDepth 100000
set_option maxHeartbeats 4000000

theorem or_class : ∀ c t : Int, 0 ≤ c → c ≤ 3 → 0 ≤ t → t ≤ 30 → orI .i64 (c * 64) t = 64 * c + t := by
  have h : ∀ (c : Fin 4) (t : Fin 31), orI .i64 ((c.val : Int) * 64) (t.val : Int) = 64 * (c.val : Int) + (t.val : Int) := by decide +kernel
  intro c t h0 h1 h2 h3
  have := h ⟨c.toNat, by omega⟩ ⟨t.toNat, by omega⟩
  simp only at this
  rwa [Int.toNat_of_nonneg h0, Int.toNat_of_nonneg h2] at this
theorem or_made : ∀ c t : Int, 0 ≤ c → c ≤ 3 → 0 ≤ t → t ≤ 30 → orI .u8 (64 * c + t) 32 = 64 * c + t + 32 := by
  have h : ∀ (c : Fin 4) (t : Fin 31), orI .u8 (64 * (c.val : Int) + (t.val : Int)) 32 = 64 * (c.val : Int) + (t.val : Int) + 32 := by decide +kernel
  intro c t h0 h1 h2 h3
  have := h ⟨c.toNat, by omega⟩ ⟨t.toNat, by omega⟩
  simp only at this
  rwa [Int.toNat_of_nonneg h0, Int.toNat_of_nonneg h2] at this

theorem wrap8 (x : Int) : IntKind.u8.wrap x = x % 256 := by
  simp [IntKind.wrap, IntKind.bits, IntKind.signed]

/-- The last so many bytes, the greatest first. -/
def beB (n : Int) : Nat → List Int
  | 0 => []
  | q + 1 => (n.fdiv (2 ^ (8 * q)) % 256) :: beB n q

theorem loop_wB {C : Ctx} {F : Nat} (htt : C.tt = (envG G).tt) (hlin : C.lin = [88, 86, 76, 72, 58, 49, 42, 0, 4, 39, 45, 53, 65, 73, 1000086, 84]) (hreg : C.reg = reg25) {c : Code}
    (hc : loopAt 16 Try.f25 = some c) (B : Blk) (hB : oldB 1 (some B) = some B) (n : Int) (h0 : 0 ≤ n) (hn : n ≤ 1048576) :
    ∀ (q k : Nat) (o : List Int) (st : St), q ≤ 3 → q < k → o.length + q ≤ 2097252 →
      st.trim 1 [0, 3, 6, 10] = ⟨[(0, .d (.nums .u8 false o)), (3, .ptr 0 0), (6, .d (.int .i64 n)), (10, .d (.int .i64 ((q : Int) - 1)))], [some B], [.t 0]⟩ →
      iter (ev C F c) 1 [0, 3, 6, 10] [0, 3, 4] k st = some (.exit 2, ⟨[(0, .d (.nums .u8 false (o ++ beB n q))), (3, .ptr 0 0)], [some B], [.t 0]⟩) := by
  have hev : ∀ st, ev C F c st = ev C F ((loopAt 16 Try.f25).getD .skip) st := fun st => by rw [hc]; rfl
  intro q
  induction q with
  | zero =>
    intro k o st hq hk ho hst
    obtain ⟨k, rfl⟩ : ∃ j, k = j + 1 := ⟨k - 1, by omega⟩
    rw [iter_eq, hst, hev]
    simp [loopAt, findLoop, Try.f25, htt, hlin, hreg, reg25, beB]
  | succ q ih =>
    intro k o st hq hk ho hst
    obtain ⟨k, rfl⟩ : ∃ j, k = j + 1 := ⟨k - 1, by omega⟩
    have e0 : ((q + 1 : Nat) : Int) - 1 = (q : Int) := by omega
    rw [e0] at hst
    have e1 : (0 : Int) ≤ (q : Int) := by omega
    have e2 : (q : Int) - 1 ≤ 9223372036854775807 := by omega
    have e3 : -9223372036854775808 ≤ (q : Int) - 1 := by omega
    have e4 : 8 * (q : Int) ≤ 9223372036854775807 := by omega
    have e5 : -9223372036854775808 ≤ 8 * (q : Int) := by omega
    have e6 : (0 : Int) ≤ 8 * (q : Int) := by omega
    have e7 : min (8 * (q : Int)).toNat 64 = 8 * q := by omega
    have hd : 0 ≤ n.fdiv (2 ^ (8 * q)) ∧ n.fdiv (2 ^ (8 * q)) ≤ n := by
      have hp : (0 : Int) < 2 ^ (8 * q) := Int.pow_pos (by omega)
      rw [Int.fdiv_eq_ediv_of_nonneg _ (by omega)]
      exact ⟨Int.ediv_nonneg h0 (by omega), Int.ediv_le_self _ h0⟩
    have e8 : n.fdiv (2 ^ (8 * q)) ≤ 9223372036854775807 := by omega
    have e9 : -9223372036854775808 ≤ n.fdiv (2 ^ (8 * q)) := by omega
    have er : o.length ≤ 140737488355327 := by omega
    have ih' := fun st h => ih k (o ++ [n.fdiv (2 ^ (8 * q)) % 256]) st (by omega) (by omega) (by simp; omega) h
    rw [iter_eq, hst, hev]
    have el : o ++ beB n (q + 1) = o ++ [n.fdiv (2 ^ (8 * q)) % 256] ++ beB n q := by simp [beB]
    rw [el]
    simp [loopAt, findLoop, Try.f25, htt, hlin, hreg, reg25, e1, e2, e3, e4, e5, e6, e7, e8, e9, er, wrap8]
    simp at ih'
    exact ih' _ (by simp [hB])
end Go.Proofs.Ytjmcgdhekjkjfaa
