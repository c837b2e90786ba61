/- What der.size hands back. -/
import Derived.Test.YtjmcgdhekjkjfaaDoorSD
set_option linter.unusedSimpArgs false
set_option linter.unusedVariables false
namespace Go.Proofs.YtjmcgdhekjkjfaaDoor
open Go Go.VM
variable {G : GE}
set_option maxRecDepth 100000
set_option maxHeartbeats 4000000
mutual
def Tlv.sizeN : Tlv → Int
  | .mk _ _ _ _ b _ ks => Tlv.sizeL ks b.length + headN (Tlv.sizeL ks b.length)
def Tlv.sizeL : List Tlv → Int → Int
  | [], n => n
  | x :: l, n => if n ≤ 1048576 then Tlv.sizeL l (n + x.sizeN) else n
end
theorem headN_le (n : Int) : 2 ≤ headN n ∧ headN n ≤ 5 := by unfold headN; split <;> (try split) <;> (try split) <;> omega
theorem sizeL_le {K S : Int} (hK : 1048576 + S ≤ K) : ∀ l : List Tlv, (∀ y ∈ l, 0 ≤ y.sizeN ∧ y.sizeN ≤ S) → ∀ n : Int, 0 ≤ n → n ≤ K → 0 ≤ Tlv.sizeL l n ∧ Tlv.sizeL l n ≤ K
  | [], _, n, h0, h1 => ⟨h0, h1⟩
  | x :: l, h, n, h0, h1 => by
    have hx := h x (by simp)
    simp only [Tlv.sizeL]
    split
    · exact sizeL_le hK l (fun y hy => h y (by simp [hy])) _ (by omega) (by omega)
    · exact ⟨h0, h1⟩
theorem sizeN_le {B : Nat} (hB : B ≤ 140737488355328) : ∀ (d : Nat) (x : Tlv), x.depth ≤ d → x.width B → 0 ≤ x.sizeN ∧ x.sizeN ≤ 140737488355328 + 2000000 * d := by
  intro d
  induction d with
  | zero => intro x hd; cases x; simp [Tlv.depth] at hd
  | succ d ih =>
    intro x hd hw
    obtain ⟨c, t, m, bn, b, kn, ks⟩ := x
    simp only [Tlv.depth] at hd
    simp only [Tlv.width] at hw
    have h1 := sizeL_le (K := 140737488355328 + 2000000 * d + 1048576) (S := 140737488355328 + 2000000 * d) (by omega) ks
      (fun y hy => ih y (by have := depthL_mem hy; omega) (widthL_mem hw.2.2 hy)) b.length (by omega) (by omega)
    have h2 := headN_le (Tlv.sizeL ks b.length)
    simp only [Tlv.sizeN]
    omega
theorem loop_size {C : Ctx} {F m B : Nat} (htt : C.tt = (envG G).tt) (hlin : C.lin = []) (hreg : C.reg = reg107) (hcall : C.call = callN (envG G) F m) {c : Code}
    (hc : loopAt 3 Tryd.f107 = some c) (p0 p1 p2 p3 : D) (nl : Bool) (a : List Tlv) (ha : a.length ≤ 140737488355328)
    (hg : ∀ x ∈ a, callN (envG G) F m 107 [.d (.agg x.cells)] = some ⟨[.d (.int .i64 x.sizeN)], []⟩) (hs : ∀ x ∈ a, 0 ≤ x.sizeN ∧ x.sizeN ≤ 4611686018427387904) :
    ∀ (us : List Tlv) (i k : Nat) (z : Int) (st : St), a.drop i = us → i ≤ a.length → us.length < k → 0 ≤ z →
      st.trim 1 [1, 3, 4] = ⟨[(1, .ptr 0 0), (3, .d (.int .i64 z)), (4, .d (.int .i64 i))], [some (.cells false [.d p0, .d p1, .d p2, .d p3, .d (.sl 5 nl (Tlv.cellsL a))])], []⟩ →
      iter (ev C F c) 1 [1, 3, 4] [2, 3] k st = some (.exit 0, ⟨[(3, .d (.int .i64 (Tlv.sizeL us z)))], [some (.cells false [.d p0, .d p1, .d p2, .d p3, .d (.sl 5 nl (Tlv.cellsL a))])], []⟩) := by
  have hev : ∀ st, ev C F c st = ev C F ((loopAt 3 Tryd.f107).getD .skip) st := fun st => by rw [hc]; rfl
  intro us
  induction us with
  | nil =>
    intro i k z st hd hi hk hz hst
    obtain ⟨k, rfl⟩ : ∃ j, k = j + 1 := ⟨k - 1, by simp at hk; omega⟩
    have h0 := drop_nil hd
    have e0 : ¬ ((i : Int) < (a.length : Int)) := by omega
    rw [iter_eq, hst, hev]
    simp [loopAt, findLoop, Tryd.f107, htt, hlin, hreg, reg107, e0, Tlv.sizeL, cellsL_len]
  | cons x us ih =>
    intro i k z st hd hi hk hz hst
    obtain ⟨k, rfl⟩ : ∃ j, k = j + 1 := ⟨k - 1, by simp at hk; omega⟩
    simp at hk
    obtain ⟨hd2, hlt⟩ := drop_succ hd
    have ra := cellsL_at hd
    have hxm := List.mem_of_getElem? (at_of_drop hd)
    have hx := hg x hxm
    have hsx := hs x hxm
    have e0 : (i : Int) < (a.length : Int) := by omega
    have e1 : (i : Int) + 1 ≤ 9223372036854775807 := by omega
    have e2 : (-9223372036854775808 : Int) ≤ (i : Int) + 1 := by omega
    rw [iter_eq, hst, hev]
    by_cases hm : z ≤ 1048576
    · have e3 : z + x.sizeN ≤ 9223372036854775807 := by omega
      have e4 : -9223372036854775808 ≤ z + x.sizeN := by omega
      have ih' := fun st h => ih (i + 1) k (z + x.sizeN) st hd2 (by omega) hk (by omega) h
      have es : Tlv.sizeL (x :: us) z = Tlv.sizeL us (z + x.sizeN) := by simp only [Tlv.sizeL, if_pos hm]
      rw [es]
      clear es
      obtain ⟨c1, t, md, bn, b, kx, ks⟩ := x
      simp only [Tlv.cells] at ra hx
      generalize Tlv.sizeN (.mk c1 t md bn b kx ks) = s at *
      simp [loopAt, findLoop, Tryd.f107, htt, hlin, hreg, reg107, hcall, e0, e1, e2, e3, e4, hm, ra, hx, cellsL_len]
      exact ih' _ (by simp)
    · have es : Tlv.sizeL (x :: us) z = z := by simp only [Tlv.sizeL, if_neg hm]
      rw [es]
      simp [loopAt, findLoop, Tryd.f107, htt, hlin, hreg, reg107, hcall, e0, hm, cellsL_len]
theorem t_size (F : Nat) (hF : F ≤ 140737488355328) (B : Nat) (hB : B < F) : ∀ (d n : Nat) (x : Tlv), d ≤ 1000000 → x.depth ≤ d → x.width B →
    callN (envG G) F (n + 2 * d) 107 [.d (.agg x.cells)] = some ⟨[.d (.int .i64 x.sizeN)], []⟩ := by
  intro d
  induction d with
  | zero => intro n x _ hd; cases x; simp [Tlv.depth] at hd
  | succ d ih =>
    intro n x hd0 hd hw
    have hb1 := sizeN_le (B := B) (by omega) (d + 1) x hd hw
    obtain ⟨c, t, m, bn, b, kn, ks⟩ := x
    simp only [Tlv.depth] at hd
    simp only [Tlv.width] at hw
    have hkl : ks.length ≤ B := hw.2.1
    have hbl : b.length ≤ B := hw.1
    have hh := fun k => t_head (G := G) F (n + 2 * d) k
    simp only [Tlv.cells]
    rw [show n + 2 * (d + 1) = n + 2 * d + 1 + 1 by omega, callN_run (fn := Tryd.f107) rfl rfl rfl (by simp [Tryd.ntmps107])]
    generalize hC : (envG G).ctx 107 (callN (envG G) F (n + 2 * d + 1)) (callP (envG G) F (n + 2 * d + 1)) = C
    have htt : C.tt = (envG G).tt := by rw [← hC]; rfl
    have hlin : C.lin = [] := by rw [← hC]; rfl
    have hreg : C.reg = reg107 := by rw [← hC]; rfl
    have hcall : C.call = callN (envG G) F (n + 2 * d + 1) := by rw [← hC]; rfl
    have hl1 : C.live 3 = [1, 3, 4] := by rw [← hC]; rfl
    have hl2 : C.live 100003 = [2, 3] := by rw [← hC]; rfl
    have hL := fun st h => loop_size (G := G) (B := B) htt hlin hreg hcall rfl (.int .i64 c) (.int .i64 t) (.bool m) (.nums .u8 bn b) kn ks (by omega)
      (fun x hx => by
        have := ih (n + 1) x (by omega) (by have := depthL_mem hx; omega) (widthL_mem hw.2.2 hx)
        rwa [show n + 1 + 2 * d = n + 2 * d + 1 by omega] at this)
      (fun x hx => by have := sizeN_le (B := B) (by omega) d x (by have := depthL_mem hx; omega) (widthL_mem hw.2.2 hx); omega) ks 0 F b.length st rfl (by omega) (by omega) (by omega) h
    simp only [Tlv.sizeN] at hb1 ⊢
    have h2 := headN_le (Tlv.sizeL ks b.length)
    generalize hsz : Tlv.sizeL ks (b.length : Int) = s at *
    have e3 : s + headN s ≤ 9223372036854775807 := by omega
    have e4 : -9223372036854775808 ≤ s + headN s := by omega
    simp [htt, hlin, hreg, reg107, hcall, ev_loop, hl1, hl2]
    rw [hL _ (by simp)]
    simp [htt, hlin, hreg, reg107, hcall, hh, e3, e4]
end Go.Proofs.YtjmcgdhekjkjfaaDoor
set_option linter.unusedSimpArgs false
set_option linter.unusedVariables false
namespace Go.Proofs.YtjmcgdhekjkjfaaDoor
open Go Go.VM
theorem sizeB_len (n : Nat) (h : n < 16777216) : ((sizeB n).length : Int) + 1 = headN n := by
  unfold sizeB headN
  split
  · rw [if_pos (by omega)]; simp
  · split
    · rw [if_neg (by omega), if_pos (by omega)]; simp
    · split
      · rw [if_neg (by omega), if_neg (by omega), if_pos (by omega)]; simp
      · rw [if_neg (by omega), if_neg (by omega), if_neg (by omega)]; simp
theorem headN_pos (n : Int) : 2 ≤ headN n ∧ headN n ≤ 5 := headN_le n
mutual
theorem size_enc : ∀ x : Tlv, (x.enc.length ≤ 1048576 → x.sizeN = x.enc.length) ∧ (1048576 < x.enc.length → 1048576 < x.sizeN)
  | .mk c t m bn b kn ks => by
    have h := size_encL ks b.length (by omega)
    simp only [Tlv.sizeN, Tlv.enc, headB, List.length_append, List.length_cons]
    generalize hN : b.length + (Tlv.encL ks).length = N at *
    have hp := headN_pos (Tlv.sizeL ks b.length)
    by_cases hs : N ≤ 1048576
    · have e := h.1 (by omega)
      have hl := sizeB_len N (by omega)
      rw [e]
      have e2 : ((b.length : Int) + (Tlv.encL ks).length) = (N : Int) := by omega
      rw [e2]
      omega
    · have e := h.2 (by omega)
      omega
theorem size_encL : ∀ (l : List Tlv) (n : Int), 0 ≤ n → (n + (Tlv.encL l).length ≤ 1048576 → Tlv.sizeL l n = n + (Tlv.encL l).length) ∧ (1048576 < n + (Tlv.encL l).length → 1048576 < Tlv.sizeL l n)
  | [], n, h0 => by simp [Tlv.sizeL, Tlv.encL]
  | x :: l, n, h0 => by
    have hx := size_enc x
    simp only [Tlv.sizeL, Tlv.encL, List.length_append]
    by_cases hn : n ≤ 1048576
    · rw [if_pos hn]
      by_cases he : x.enc.length ≤ 1048576
      · have e := hx.1 he
        have := size_encL l (n + x.sizeN) (by omega)
        omega
      · have e := hx.2 (by omega)
        have hbig : ∀ (l : List Tlv) (m : Int), 1048576 < m → 1048576 < Tlv.sizeL l m := by
          intro l
          cases l with
          | nil => intro m hm; exact hm
          | cons y l => intro m hm; simp only [Tlv.sizeL]; rw [if_neg (by omega)]; exact hm
        have := hbig l (n + x.sizeN) (by omega)
        omega
    · rw [if_neg hn]
      omega
end
end Go.Proofs.YtjmcgdhekjkjfaaDoor
set_option linter.unusedSimpArgs false
set_option linter.unusedVariables false
namespace Go.Proofs.YtjmcgdhekjkjfaaDoor
open Go Go.VM
variable {G : GE}
set_option maxRecDepth 100000
set_option maxHeartbeats 4000000
theorem loop_wA {C : Ctx} {F m : Nat} (htt : C.tt = (envG G).tt) (hlin : C.lin = [88, 86, 76, 72, 58, 49, 42, 0, 4, 39, 45, 53, 65, 73, 1000086, 84]) (hreg : C.reg = reg62) (hcall : C.call = callN (envG G) F m) {c : Code}
    (hc : loopAt 6 Tryd.f62 = some c) (o p5 : D) (B : Blk) (hB : oldB 1 (some B) = some B) (nl : Bool) (a : List Tlv) (ha : a.length ≤ 140737488355328)
    (hg : ∀ x ∈ a, callN (envG G) F m 107 [.d (.agg x.cells)] = some ⟨[.d (.int .i64 x.sizeN)], []⟩) (hs : ∀ x ∈ a, x.sizeN = x.enc.length) :
    ∀ (us : List Tlv) (i k : Nat) (z : Int) (st : St), a.drop i = us → i ≤ a.length → us.length < k → 0 ≤ z → z + (Tlv.encL us).length ≤ 1048576 →
      st.trim 1 [0, 3, 5, 6, 28, 29, 30] = ⟨[(0, .d o), (3, .ptr 0 0), (5, .d p5), (6, .d (.int .i64 z)), (28, .d (.sl 5 nl (Tlv.cellsL a))), (29, .d (.int .i64 a.length)), (30, .d (.int .i64 i))], [some B], [.t 0]⟩ →
      iter (ev C F c) 1 [0, 3, 5, 6, 28, 29, 30] [0, 3, 4, 5, 6] k st = some (.exit 0, ⟨[(0, .d o), (3, .ptr 0 0), (5, .d p5), (6, .d (.int .i64 (z + (Tlv.encL us).length)))], [some B], [.t 0]⟩) := by
  have hev : ∀ st, ev C F c st = ev C F ((loopAt 6 Tryd.f62).getD .skip) st := fun st => by rw [hc]; rfl
  intro us
  induction us with
  | nil =>
    intro i k z st hd hi hk hz hzz hst
    obtain ⟨k, rfl⟩ : ∃ j, k = j + 1 := ⟨k - 1, by simp at hk; omega⟩
    have h0 := drop_nil hd
    have e0 : ¬ ((i : Int) < (a.length : Int)) := by omega
    rw [iter_eq, hst, hev]
    simp [loopAt, findLoop, Tryd.f62, htt, hlin, hreg, reg62, e0, Tlv.encL]
  | cons x us ih =>
    intro i k z st hd hi hk hz hzz hst
    obtain ⟨k, rfl⟩ : ∃ j, k = j + 1 := ⟨k - 1, by simp at hk; omega⟩
    simp at hk
    obtain ⟨hd2, hlt⟩ := drop_succ hd
    have ra := cellsL_at hd
    have hxm := List.mem_of_getElem? (at_of_drop hd)
    have hx := hg x hxm
    have hsx := hs x hxm
    have e0 : (i : Int) < (a.length : Int) := by omega
    have e1 : (i : Int) + 1 ≤ 9223372036854775807 := by omega
    have e2 : (-9223372036854775808 : Int) ≤ (i : Int) + 1 := by omega
    simp only [Tlv.encL, List.length_append] at hzz ⊢
    rw [hsx] at hx
    have e3 : z + (x.enc.length : Int) ≤ 9223372036854775807 := by omega
    have e4 : -9223372036854775808 ≤ z + (x.enc.length : Int) := by omega
    have ih' := fun st h => ih (i + 1) k (z + x.enc.length) st hd2 (by omega) hk (by omega) (by omega) h
    rw [iter_eq, hst, hev]
    have el : z + ((x.enc.length + (Tlv.encL us).length : Nat) : Int) = z + x.enc.length + (Tlv.encL us).length := by omega
    rw [el]
    obtain ⟨c1, t, md, bn, b, kx, ks⟩ := x
    simp only [Tlv.cells] at ra hx
    generalize Tlv.enc (.mk c1 t md bn b kx ks) = s at *
    simp [loopAt, findLoop, Tryd.f62, htt, hlin, hreg, reg62, hcall, e0, e1, e2, e3, e4, ra, hx]
    exact ih' _ (by simp [hB])
theorem loop_wC {C : Ctx} {F m : Nat} (htt : C.tt = (envG G).tt) (hlin : C.lin = [88, 86, 76, 72, 58, 49, 42, 0, 4, 39, 45, 53, 65, 73, 1000086, 84]) (hreg : C.reg = reg62) (hcall : C.callP = callP (envG G) F m) {c : Code}
    (hc : loopAt 21 Tryd.f62 = some c) (B : Blk) (hB : oldB 1 (some B) = some B) (nl : Bool) (a : List Tlv) (ha : a.length ≤ 140737488355328)
    (hg : ∀ x ∈ a, ∀ o : List Int, o.length + x.enc.length ≤ 2097152 → callP (envG G) F m 62 [.d (.nums .u8 false o), .d (.agg x.cells)] [] [.t 0] = some ⟨[.d (.nums .u8 false (o ++ x.enc))], [0], [], []⟩) :
    ∀ (us : List Tlv) (i k : Nat) (o : List Int) (st : St), a.drop i = us → i ≤ a.length → us.length < k → o.length + (Tlv.encL us).length ≤ 2097152 →
      st.trim 1 [0, 78, 79, 80] = ⟨[(0, .d (.nums .u8 false o)), (78, .d (.sl 5 nl (Tlv.cellsL a))), (79, .d (.int .i64 a.length)), (80, .d (.int .i64 i))], [some B], [.t 0]⟩ →
      iter (ev C F c) 1 [0, 78, 79, 80] [0, 4] k st = some (.exit 4, ⟨[(0, .d (.nums .u8 false (o ++ Tlv.encL us)))], [some B], [.t 0]⟩) := by
  have hev : ∀ st, ev C F c st = ev C F ((loopAt 21 Tryd.f62).getD .skip) st := fun st => by rw [hc]; rfl
  intro us
  induction us with
  | nil =>
    intro i k o st hd hi hk hzz hst
    obtain ⟨k, rfl⟩ : ∃ j, k = j + 1 := ⟨k - 1, by simp at hk; omega⟩
    have h0 := drop_nil hd
    have e0 : ¬ ((i : Int) < (a.length : Int)) := by omega
    rw [iter_eq, hst, hev]
    simp [loopAt, findLoop, Tryd.f62, htt, hlin, hreg, reg62, e0, Tlv.encL]
  | cons x us ih =>
    intro i k o st hd hi hk hzz hst
    obtain ⟨k, rfl⟩ : ∃ j, k = j + 1 := ⟨k - 1, by simp at hk; omega⟩
    simp at hk
    obtain ⟨hd2, hlt⟩ := drop_succ hd
    have ra := cellsL_at hd
    have hxm := List.mem_of_getElem? (at_of_drop hd)
    simp only [Tlv.encL, List.length_append] at hzz ⊢
    have hx := hg x hxm o (by omega)
    have e0 : (i : Int) < (a.length : Int) := by omega
    have e1 : (i : Int) + 1 ≤ 9223372036854775807 := by omega
    have e2 : (-9223372036854775808 : Int) ≤ (i : Int) + 1 := by omega
    have ih' := fun st h => ih (i + 1) k (o ++ x.enc) st hd2 (by omega) hk (by simp; omega) h
    rw [iter_eq, hst, hev]
    rw [← List.append_assoc]
    obtain ⟨c1, t, md, bn, b, kx, ks⟩ := x
    simp only [Tlv.cells] at ra hx
    generalize Tlv.enc (.mk c1 t md bn b kx ks) = s at *
    simp [loopAt, findLoop, Tryd.f62, htt, hlin, hreg, reg62, hcall, e0, e1, e2, ra, hx]
    simp at ih'
    exact ih' _ (by simp [hB])
end Go.Proofs.YtjmcgdhekjkjfaaDoor
set_option linter.unusedSimpArgs false
set_option linter.unusedVariables false
namespace Go.Proofs.YtjmcgdhekjkjfaaDoor
open Go Go.VM
variable {G : GE}
set_option maxRecDepth 100000
set_option maxHeartbeats 4000000
theorem or_class : ∀ c t : Int, 0 ≤ c → c ≤ 3 → 0 ≤ t → t ≤ 30 → orI .i64 (c * 64) t = 64 * c + t := by
  have h : ∀ (c : Fin 4) (t : Fin 31), orI .i64 ((c.val : Int) * 64) (t.val : Int) = 64 * (c.val : Int) + (t.val : Int) := by decide +kernel
  intro c t h0 h1 h2 h3
  have := h ⟨c.toNat, by omega⟩ ⟨t.toNat, by omega⟩
  simp only at this
  rwa [Int.toNat_of_nonneg h0, Int.toNat_of_nonneg h2] at this
theorem or_made : ∀ c t : Int, 0 ≤ c → c ≤ 3 → 0 ≤ t → t ≤ 30 → orI .u8 (64 * c + t) 32 = 64 * c + t + 32 := by
  have h : ∀ (c : Fin 4) (t : Fin 31), orI .u8 (64 * (c.val : Int) + (t.val : Int)) 32 = 64 * (c.val : Int) + (t.val : Int) + 32 := by decide +kernel
  intro c t h0 h1 h2 h3
  have := h ⟨c.toNat, by omega⟩ ⟨t.toNat, by omega⟩
  simp only at this
  rwa [Int.toNat_of_nonneg h0, Int.toNat_of_nonneg h2] at this
theorem wrap8 (x : Int) : IntKind.u8.wrap x = x % 256 := by
  simp [IntKind.wrap, IntKind.bits, IntKind.signed]
def beB (n : Int) : Nat → List Int
  | 0 => []
  | q + 1 => (n.fdiv (2 ^ (8 * q)) % 256) :: beB n q
theorem loop_wB {C : Ctx} {F : Nat} (htt : C.tt = (envG G).tt) (hlin : C.lin = [88, 86, 76, 72, 58, 49, 42, 0, 4, 39, 45, 53, 65, 73, 1000086, 84]) (hreg : C.reg = reg62) {c : Code}
    (hc : loopAt 16 Tryd.f62 = some c) (B : Blk) (hB : oldB 1 (some B) = some B) (n : Int) (h0 : 0 ≤ n) (hn : n ≤ 1048576) :
    ∀ (q k : Nat) (o : List Int) (st : St), q ≤ 3 → q < k → o.length + q ≤ 2097252 →
      st.trim 1 [0, 3, 6, 10] = ⟨[(0, .d (.nums .u8 false o)), (3, .ptr 0 0), (6, .d (.int .i64 n)), (10, .d (.int .i64 ((q : Int) - 1)))], [some B], [.t 0]⟩ →
      iter (ev C F c) 1 [0, 3, 6, 10] [0, 3, 4] k st = some (.exit 2, ⟨[(0, .d (.nums .u8 false (o ++ beB n q))), (3, .ptr 0 0)], [some B], [.t 0]⟩) := by
  have hev : ∀ st, ev C F c st = ev C F ((loopAt 16 Tryd.f62).getD .skip) st := fun st => by rw [hc]; rfl
  intro q
  induction q with
  | zero =>
    intro k o st hq hk ho hst
    obtain ⟨k, rfl⟩ : ∃ j, k = j + 1 := ⟨k - 1, by omega⟩
    rw [iter_eq, hst, hev]
    simp [loopAt, findLoop, Tryd.f62, htt, hlin, hreg, reg62, beB]
  | succ q ih =>
    intro k o st hq hk ho hst
    obtain ⟨k, rfl⟩ : ∃ j, k = j + 1 := ⟨k - 1, by omega⟩
    have e0 : ((q + 1 : Nat) : Int) - 1 = (q : Int) := by omega
    rw [e0] at hst
    have e1 : (0 : Int) ≤ (q : Int) := by omega
    have e2 : (q : Int) - 1 ≤ 9223372036854775807 := by omega
    have e3 : -9223372036854775808 ≤ (q : Int) - 1 := by omega
    have e4 : 8 * (q : Int) ≤ 9223372036854775807 := by omega
    have e5 : -9223372036854775808 ≤ 8 * (q : Int) := by omega
    have e6 : (0 : Int) ≤ 8 * (q : Int) := by omega
    have e7 : min (8 * (q : Int)).toNat 64 = 8 * q := by omega
    have hd : 0 ≤ n.fdiv (2 ^ (8 * q)) ∧ n.fdiv (2 ^ (8 * q)) ≤ n := by
      have hp : (0 : Int) < 2 ^ (8 * q) := Int.pow_pos (by omega)
      rw [Int.fdiv_eq_ediv_of_nonneg _ (by omega)]
      exact ⟨Int.ediv_nonneg h0 (by omega), Int.ediv_le_self _ h0⟩
    have e8 : n.fdiv (2 ^ (8 * q)) ≤ 9223372036854775807 := by omega
    have e9 : -9223372036854775808 ≤ n.fdiv (2 ^ (8 * q)) := by omega
    have er : o.length ≤ 140737488355327 := by omega
    have ih' := fun st h => ih k (o ++ [n.fdiv (2 ^ (8 * q)) % 256]) st (by omega) (by omega) (by simp; omega) h
    rw [iter_eq, hst, hev]
    have el : o ++ beB n (q + 1) = o ++ [n.fdiv (2 ^ (8 * q)) % 256] ++ beB n q := by simp [beB]
    rw [el]
    simp [loopAt, findLoop, Tryd.f62, htt, hlin, hreg, reg62, e1, e2, e3, e4, e5, e6, e7, e8, e9, er, wrap8]
    simp at ih'
    exact ih' _ (by simp [hB])
end Go.Proofs.YtjmcgdhekjkjfaaDoor
set_option linter.unusedSimpArgs false
set_option linter.unusedVariables false
namespace Go.Proofs.YtjmcgdhekjkjfaaDoor
open Go Go.VM
variable {G : GE}
set_option maxRecDepth 100000
set_option maxHeartbeats 4000000
theorem sizeB_be (N : Nat) (h : N ≤ 1048576) (h1 : 128 ≤ N) : ∃ q : Nat, 1 ≤ q ∧ q ≤ 3 ∧ headN N = q + 2 ∧ sizeB N = ((128 + q : Nat) : Int) :: beB N q := by
  have hp : ∀ k : Nat, (N : Int).fdiv (2 ^ k) = (N : Int) / 2 ^ k := fun k => Int.fdiv_eq_ediv_of_nonneg _ (Int.le_of_lt (Int.pow_pos (by omega)))
  by_cases h2 : N < 256
  · have a1 : headN N = 3 := by unfold headN; rw [if_neg (by omega), if_pos (by omega)]
    have a2 : sizeB N = [129, (N : Int)] := by unfold sizeB; rw [if_neg (by omega), if_pos h2]
    refine ⟨1, by omega, by omega, by rw [a1]; rfl, ?_⟩
    rw [a2]
    simp only [beB, hp]
    have e1 : (N : Int) % 256 = N := by omega
    simp [e1]
  · by_cases h3 : N < 65536
    · have a1 : headN N = 4 := by unfold headN; rw [if_neg (by omega), if_neg (by omega), if_pos (by omega)]
      have a2 : sizeB N = [130, (N : Int) / 256, (N : Int) % 256] := by unfold sizeB; rw [if_neg (by omega), if_neg h2, if_pos h3]
      refine ⟨2, by omega, by omega, by rw [a1]; rfl, ?_⟩
      rw [a2]
      simp only [beB, hp]
      have e1 : (N : Int) / 256 % 256 = (N : Int) / 256 := by omega
      simp [e1]
    · have a1 : headN N = 5 := by unfold headN; rw [if_neg (by omega), if_neg (by omega), if_neg (by omega)]
      have a2 : sizeB N = [131, (N : Int) / 65536, (N : Int) / 256 % 256, (N : Int) % 256] := by unfold sizeB; rw [if_neg (by omega), if_neg h2, if_neg h3]
      refine ⟨3, by omega, by omega, by rw [a1]; rfl, ?_⟩
      rw [a2]
      simp only [beB, hp]
      have e1 : (N : Int) / 65536 % 256 = (N : Int) / 65536 := by omega
      simp [e1]
theorem beB_len (z : Int) : ∀ q : Nat, (beB z q).length = q
  | 0 => rfl
  | q + 1 => by simp [beB, beB_len z q]
theorem fineL_mem' {x : Tlv} : ∀ {l : List Tlv}, Tlv.fineL l = true → x ∈ l → x.fine = true
  | y :: l, h, hx => by
    simp only [Tlv.fineL, Bool.and_eq_true] at h
    rcases List.mem_cons.1 hx with rfl | hx
    · exact h.1
    · exact fineL_mem' h.2 hx
theorem enc_mem {x : Tlv} : ∀ {l : List Tlv}, x ∈ l → x.enc.length ≤ (Tlv.encL l).length
  | y :: l, hx => by
    simp only [Tlv.encL, List.length_append]
    rcases List.mem_cons.1 hx with rfl | hx
    · omega
    · have := enc_mem hx; omega
theorem t_write (F : Nat) (hF : F ≤ 140737488355328) (B : Nat) (hB : B < F) (hF2 : 10 < F) : ∀ (d n : Nat) (x : Tlv) (o : List Int) (nl : Bool), d ≤ 1000000 → x.depth ≤ d → x.width B → x.fine = true → x.enc.length ≤ 1048576 → o.length + x.enc.length ≤ 2097152 →
    callP (envG G) F (n + 3 * d) 62 [.d (.nums .u8 nl o), .d (.agg x.cells)] [] [.t 0] = some ⟨[.d (.nums .u8 false (o ++ x.enc))], [0], [], []⟩ := by
  intro d
  induction d with
  | zero => intro n x o nl _ hd; cases x; simp [Tlv.depth] at hd
  | succ d ih =>
    intro n x o nl hd0 hd hw hfi hen hol
    obtain ⟨c, t, m, bn, b, kn, ks⟩ := x
    simp only [Tlv.depth] at hd
    simp only [Tlv.width] at hw
    have hkl : ks.length ≤ B := hw.2.1
    have hbl : b.length ≤ B := hw.1
    simp only [Tlv.fine, Bool.and_eq_true, decide_eq_true_eq] at hfi
    obtain ⟨⟨c0, c3, t0, t30, _, _⟩, hfl⟩ := hfi
    simp only [Tlv.enc, headB, List.length_append, List.length_cons] at hen hol
    simp only [Tlv.enc, headB, Tlv.cells]
    rw [show n + 3 * (d + 1) = n + 3 * d + 2 + 1 by omega, callP_run (fn := Tryd.f62) rfl rfl rfl (by simp [Tryd.ntmps62])]
    generalize hC : (envG G).ctx 62 (callN (envG G) F (n + 3 * d + 2)) (callP (envG G) F (n + 3 * d + 2)) = C
    have htt : C.tt = (envG G).tt := by rw [← hC]; rfl
    have hlin : C.lin = [88, 86, 76, 72, 58, 49, 42, 0, 4, 39, 45, 53, 65, 73, 1000086, 84] := by rw [← hC]; rfl
    have hreg : C.reg = reg62 := by rw [← hC]; rfl
    have hcall : C.call = callN (envG G) F (n + 3 * d + 2) := by rw [← hC]; rfl
    have hcallP : C.callP = callP (envG G) F (n + 3 * d + 2) := by rw [← hC]; rfl
    have hl1 : C.live 6 = [0, 3, 5, 6, 28, 29, 30] := by rw [← hC]; rfl
    have hl2 : C.live 100006 = [0, 3, 4, 5, 6] := by rw [← hC]; rfl
    have hl3 : C.live 16 = [0, 3, 6, 10] := by rw [← hC]; rfl
    have hl4 : C.live 100016 = [0, 3, 4] := by rw [← hC]; rfl
    have hl5 : C.live 21 = [0, 78, 79, 80] := by rw [← hC]; rfl
    have hl6 : C.live 100021 = [0, 4] := by rw [← hC]; rfl
    have hLA := fun o p5 Bk hBk st h => loop_wA (G := G) htt hlin hreg hcall rfl o p5 Bk hBk kn ks (by omega)
      (fun x hx => by
        have := t_size (G := G) F hF B hB d (n + d + 2) x (by omega) (by have := depthL_mem hx; omega) (widthL_mem hw.2.2 hx)
        rwa [show n + d + 2 + 2 * d = n + 3 * d + 2 by omega] at this)
      (fun x hx => (size_enc x).1 (by have := enc_mem hx; omega)) ks 0 F b.length st rfl (by omega) (by omega) (by omega) (by omega) h
    have hLC := fun Bk hBk o ho st h => loop_wC (G := G) htt hlin hreg hcallP rfl Bk hBk kn ks (by omega)
      (fun x hx o ho => by
        have := ih (n + 2) x o false (by omega) (by have := depthL_mem hx; omega) (widthL_mem hw.2.2 hx) (fineL_mem' hfl hx) (by have := enc_mem hx; omega) ho
        rwa [show n + 2 + 3 * d = n + 3 * d + 2 by omega] at this)
      ks 0 F o st rfl (by omega) (by omega) ho h
    have hsz := sizeB_len (b.length + (Tlv.encL ks).length) (by omega)
    have hhd := headN_le ((b.length + (Tlv.encL ks).length : Nat) : Int)
    have g1 := or_class c t c0 c3 t0 t30
    have g2 := or_made c t c0 c3 t0 t30
    have g3 : IntKind.u8.wrap (64 * c + t) = 64 * c + t := by rw [wrap8]; omega
    have g4 : c * 64 ≤ 9223372036854775807 := by omega
    have g5 : -9223372036854775808 ≤ c * 64 := by omega
    have FB : ∀ p5, oldB 1 (some (.cells false [.d (.int .i64 c), .d (.int .i64 t), .d (.bool m), .d p5, .d (.sl 5 kn (Tlv.cellsL ks))])) = some (.cells false [.d (.int .i64 c), .d (.int .i64 t), .d (.bool m), .d p5, .d (.sl 5 kn (Tlv.cellsL ks))]) := fun _ => rfl
    cases m
    case false =>
      simp [htt, hlin, hreg, reg62, hcall, ev_loop, hl1, hl2, hl3, hl4, hl5, hl6, cellsL_len, g1, g3, g4, g5]
      rw [hLA (.nums .u8 nl o) (.int .u8 (64 * c + t)) _ (FB (.nums .u8 bn b)) _ (by simp)]
      have r1 : o.length ≤ 140737488355327 := by omega
      have r2 : o.length ≤ 140737488355326 := by omega
      have r6 : o.length + 2 + b.length ≤ 140737488355328 := by omega
      have r3 : o.length ≤ 140737488355325 := by omega
      have r4 : o.length ≤ 140737488355324 := by omega
      have r5 : o.length ≤ 140737488355323 := by omega
      by_cases hN : b.length + (Tlv.encL ks).length < 128
      · have n1 : ((b.length : Int) + ((Tlv.encL ks).length : Int)) < 128 := by omega
        have n2 : IntKind.u8.wrap ((b.length : Int) + ((Tlv.encL ks).length : Int)) = (b.length : Int) + ((Tlv.encL ks).length : Int) := by rw [wrap8]; omega
        simp [htt, hlin, hreg, reg62, hcall, ev_loop, hl1, hl2, hl3, hl4, hl5, hl6, cellsL_len, g1, g3, g4, g5, r1, r2, r3, r4, r5, r6, n1, n2]
        rw [hLC _ (FB (.nums .u8 bn b)) (o ++ (64 * c + t) :: ((b.length : Int) + ((Tlv.encL ks).length : Int)) :: b) (by simp; omega) _ (by simp)]
        have es : sizeB (b.length + (Tlv.encL ks).length) = [(b.length : Int) + ((Tlv.encL ks).length : Int)] := by unfold sizeB; rw [if_pos hN]; simp
        simp [htt, hlin, hreg, reg62, hcall, es]
      · obtain ⟨q, q1, q3, qh, qs⟩ := sizeB_be (b.length + (Tlv.encL ks).length) (by omega) (by omega)
        have n1 : ¬ (((b.length : Int) + ((Tlv.encL ks).length : Int)) < 128) := by omega
        have qh' : headN ((b.length : Int) + ((Tlv.encL ks).length : Int)) = q + 2 := by rw [← qh]; congr 1
        have hh := fun k => t_head (G := G) F (n + 3 * d + 1) k
        have n5 : IntKind.u8.wrap (128 + (q : Int)) = 128 + q := by rw [wrap8]; omega
        have n6 : (q : Int) ≤ 9223372036854775807 := by omega
        have n7 : -9223372036854775808 ≤ (q : Int) := by omega
        have n8 : 128 + (q : Int) ≤ 9223372036854775807 := by omega
        have n9 : -9223372036854775808 ≤ 128 + (q : Int) := by omega
        have n10 : (q : Int) - 1 ≤ 9223372036854775807 := by omega
        have n11 : -9223372036854775808 ≤ (q : Int) - 1 := by omega
        have hLB := fun Bk hBk o ho st h => loop_wB (G := G) (F := F) htt hlin hreg rfl Bk hBk ((b.length : Int) + ((Tlv.encL ks).length : Int)) (by omega) (by omega) q F o st q3 (by omega) ho h
        simp [htt, hlin, hreg, reg62, hcall, ev_loop, hl1, hl2, hl3, hl4, hl5, hl6, cellsL_len, g1, g3, g4, g5, r1, r2, r3, r4, r5, n1, hh, qh', n5, n6, n7, n8, n9, n10, n11]
        rw [hLB _ (FB (.nums .u8 bn b)) (o ++ [64 * c + t, 128 + (q : Int)]) (by simp; omega) _ (by simp)]
        have hbl2 := beB_len ((b.length : Int) + ((Tlv.encL ks).length : Int)) q
        have hql : (sizeB (b.length + (Tlv.encL ks).length)).length = q + 1 := by omega
        have r7 : o.length + (q + 1 + 1) + b.length ≤ 140737488355328 := by omega
        simp [htt, hlin, hreg, reg62, hcall, ev_loop, hl1, hl2, hl3, hl4, hl5, hl6, cellsL_len, hbl2, r7]
        rw [hLC _ (FB (.nums .u8 bn b)) (o ++ (64 * c + t) :: (128 + (q : Int)) :: (beB ((b.length : Int) + ((Tlv.encL ks).length : Int)) q ++ b)) (by simp [hbl2]; omega) _ (by simp)]
        have qs' : sizeB (b.length + (Tlv.encL ks).length) = (128 + (q : Int)) :: beB ((b.length : Int) + ((Tlv.encL ks).length : Int)) q := by
          rw [qs]
          have e1 : ((128 + q : Nat) : Int) = 128 + (q : Int) := by omega
          have e2 : ((b.length + (Tlv.encL ks).length : Nat) : Int) = (b.length : Int) + ((Tlv.encL ks).length : Int) := by omega
          rw [e1, e2]
        simp [htt, hlin, hreg, reg62, hcall, qs']
    case true =>
      simp [htt, hlin, hreg, reg62, hcall, ev_loop, hl1, hl2, hl3, hl4, hl5, hl6, cellsL_len, g1, g2, g3, g4, g5]
      rw [hLA (.nums .u8 nl o) (.int .u8 (64 * c + t + 32)) _ (FB (.nums .u8 bn b)) _ (by simp)]
      have r1 : o.length ≤ 140737488355327 := by omega
      have r2 : o.length ≤ 140737488355326 := by omega
      have r6 : o.length + 2 + b.length ≤ 140737488355328 := by omega
      have r3 : o.length ≤ 140737488355325 := by omega
      have r4 : o.length ≤ 140737488355324 := by omega
      have r5 : o.length ≤ 140737488355323 := by omega
      by_cases hN : b.length + (Tlv.encL ks).length < 128
      · have n1 : ((b.length : Int) + ((Tlv.encL ks).length : Int)) < 128 := by omega
        have n2 : IntKind.u8.wrap ((b.length : Int) + ((Tlv.encL ks).length : Int)) = (b.length : Int) + ((Tlv.encL ks).length : Int) := by rw [wrap8]; omega
        simp [htt, hlin, hreg, reg62, hcall, ev_loop, hl1, hl2, hl3, hl4, hl5, hl6, cellsL_len, g1, g2, g3, g4, g5, r1, r2, r3, r4, r5, r6, n1, n2]
        rw [hLC _ (FB (.nums .u8 bn b)) (o ++ (64 * c + t + 32) :: ((b.length : Int) + ((Tlv.encL ks).length : Int)) :: b) (by simp; omega) _ (by simp)]
        have es : sizeB (b.length + (Tlv.encL ks).length) = [(b.length : Int) + ((Tlv.encL ks).length : Int)] := by unfold sizeB; rw [if_pos hN]; simp
        simp [htt, hlin, hreg, reg62, hcall, es]
      · obtain ⟨q, q1, q3, qh, qs⟩ := sizeB_be (b.length + (Tlv.encL ks).length) (by omega) (by omega)
        have n1 : ¬ (((b.length : Int) + ((Tlv.encL ks).length : Int)) < 128) := by omega
        have qh' : headN ((b.length : Int) + ((Tlv.encL ks).length : Int)) = q + 2 := by rw [← qh]; congr 1
        have hh := fun k => t_head (G := G) F (n + 3 * d + 1) k
        have n5 : IntKind.u8.wrap (128 + (q : Int)) = 128 + q := by rw [wrap8]; omega
        have n6 : (q : Int) ≤ 9223372036854775807 := by omega
        have n7 : -9223372036854775808 ≤ (q : Int) := by omega
        have n8 : 128 + (q : Int) ≤ 9223372036854775807 := by omega
        have n9 : -9223372036854775808 ≤ 128 + (q : Int) := by omega
        have n10 : (q : Int) - 1 ≤ 9223372036854775807 := by omega
        have n11 : -9223372036854775808 ≤ (q : Int) - 1 := by omega
        have hLB := fun Bk hBk o ho st h => loop_wB (G := G) (F := F) htt hlin hreg rfl Bk hBk ((b.length : Int) + ((Tlv.encL ks).length : Int)) (by omega) (by omega) q F o st q3 (by omega) ho h
        simp [htt, hlin, hreg, reg62, hcall, ev_loop, hl1, hl2, hl3, hl4, hl5, hl6, cellsL_len, g1, g2, g3, g4, g5, r1, r2, r3, r4, r5, n1, hh, qh', n5, n6, n7, n8, n9, n10, n11]
        rw [hLB _ (FB (.nums .u8 bn b)) (o ++ [64 * c + t + 32, 128 + (q : Int)]) (by simp; omega) _ (by simp)]
        have hbl2 := beB_len ((b.length : Int) + ((Tlv.encL ks).length : Int)) q
        have hql : (sizeB (b.length + (Tlv.encL ks).length)).length = q + 1 := by omega
        have r7 : o.length + (q + 1 + 1) + b.length ≤ 140737488355328 := by omega
        simp [htt, hlin, hreg, reg62, hcall, ev_loop, hl1, hl2, hl3, hl4, hl5, hl6, cellsL_len, hbl2, r7]
        rw [hLC _ (FB (.nums .u8 bn b)) (o ++ (64 * c + t + 32) :: (128 + (q : Int)) :: (beB ((b.length : Int) + ((Tlv.encL ks).length : Int)) q ++ b)) (by simp [hbl2]; omega) _ (by simp)]
        have qs' : sizeB (b.length + (Tlv.encL ks).length) = (128 + (q : Int)) :: beB ((b.length : Int) + ((Tlv.encL ks).length : Int)) q := by
          rw [qs]
          have e1 : ((128 + q : Nat) : Int) = 128 + (q : Int) := by omega
          have e2 : ((b.length + (Tlv.encL ks).length : Nat) : Int) = (b.length : Int) + ((Tlv.encL ks).length : Int) := by omega
          rw [e1, e2]
        simp [htt, hlin, hreg, reg62, hcall, qs']
end Go.Proofs.YtjmcgdhekjkjfaaDoor
set_option linter.unusedSimpArgs false
set_option linter.unusedVariables false
namespace Go.Proofs.YtjmcgdhekjkjfaaDoor
open Go Go.VM
variable {G : GE}
set_option maxRecDepth 100000
set_option maxHeartbeats 4000000
def err (n : Int) : D := .ifc 36 (.int .i64 n)
def badW (x : Tlv) : Int := if x.fine = false then 1 else if 16 < x.depth then 9 else if 1048576 < x.enc.length then 2 else 0
def errD (n : Int) : D := if n = 0 then .nilifc else err n
theorem t_Size (F : Nat) (hF : F ≤ 140737488355328) (B : Nat) (hB : B < F) (d n : Nat) (x : Tlv) (hd0 : d ≤ 1000000) (hd : x.depth ≤ d) (hw : x.width B) :
    callN (envG G) F (n + 4 * d + 1) 61 [.d (.agg x.cells)] = some ⟨[.d (.int .i64 (if badW x = 0 then x.enc.length else 0)), .d (errD (badW x))], []⟩ := by
  have k1 := t_fine (G := G) F hF B hB d n x hd hw
  have k2 := t_deep (G := G) F hF B hB d n x 16 hd hw (by omega) (by omega)
  have k3 := t_size (G := G) F hF B hB d (n + 2 * d) x hd0 hd hw
  rw [show n + 2 * d + 2 * d = n + 4 * d by omega] at k3
  have hse := size_enc x
  unfold badW errD err
  obtain ⟨c, t, m, bn, b, kn, ks⟩ := x
  simp only [Tlv.cells] at k1 k2 k3 ⊢
  generalize hx : Tlv.mk c t m bn b kn ks = x at *
  rw [callN_run (fn := Tryd.f61) rfl rfl rfl (by simp [Tryd.ntmps61])]
  generalize hC : (envG G).ctx 61 (callN (envG G) F (n + 4 * d)) (callP (envG G) F (n + 4 * d)) = C
  have htt : C.tt = (envG G).tt := by rw [← hC]; rfl
  have hlin : C.lin = [] := by rw [← hC]; rfl
  have hreg : C.reg = reg61 := by rw [← hC]; rfl
  have hcall : C.call = callN (envG G) F (n + 4 * d) := by rw [← hC]; rfl
  cases hf : x.fine with
  | false =>
    rw [hf] at k1
    simp [htt, hlin, hreg, reg61, hcall, k1, k2, k3]
  | true =>
    rw [hf] at k1
    by_cases h16 : 16 < x.depth
    · have e1 : deepB x 16 = true := by unfold deepB; exact decide_eq_true (by omega)
      rw [e1] at k2
      simp [htt, hlin, hreg, reg61, hcall, k1, k2, k3, h16]
    · have e1 : deepB x 16 = false := by unfold deepB; exact decide_eq_false (by omega)
      rw [e1] at k2
      by_cases hl : 1048576 < x.enc.length
      · have e2 := hse.2 hl
        simp [htt, hlin, hreg, reg61, hcall, k1, k2, k3, h16, hl, e2]
      · have e2 := hse.1 (by omega)
        rw [e2] at k3
        have e3 : ¬ ((1048576 : Int) < x.enc.length) := by omega
        simp [htt, hlin, hreg, reg61, hcall, k1, k2, k3, h16, hl, e3]
theorem t_Write (F : Nat) (hF : F ≤ 140737488355328) (B : Nat) (hB : B < F) (hF2 : 10 < F) (d n : Nat) (x : Tlv) (hd0 : d ≤ 1000000) (hd : x.depth ≤ d) (hw : x.width B) :
    callN (envG G) F (n + 4 * d + 2) 17 [.d (.agg x.cells)] = some ⟨[.d (if badW x = 0 then .nums .u8 false x.enc else .nums .u8 true []), .d (errD (badW x))], [0]⟩ := by
  have k1 := t_Size (G := G) F hF B hB d n x hd0 hd hw
  have k2 : badW x = 0 → _ := fun h => t_write (G := G) F hF B hB hF2 d (n + d + 1) x [] true hd0 hd hw (by
    cases hf : x.fine with
    | true => rfl
    | false => simp [badW, hf] at h) (by
    unfold badW at h
    split at h
    · cases h
    · split at h
      · cases h
      · split at h
        · cases h
        · omega) (by
    unfold badW at h
    split at h
    · cases h
    · split at h
      · cases h
      · split at h
        · cases h
        · simp; omega)
  rw [show n + d + 1 + 3 * d = n + 4 * d + 1 by omega] at k2
  unfold errD err at *
  obtain ⟨c, t, m, bn, b, kn, ks⟩ := x
  simp only [Tlv.cells] at k1 k2 ⊢
  generalize hx : Tlv.mk c t m bn b kn ks = x at *
  rw [callN_run (fn := Tryd.f17) rfl rfl rfl (by simp [Tryd.ntmps17])]
  generalize hC : (envG G).ctx 17 (callN (envG G) F (n + 4 * d + 1)) (callP (envG G) F (n + 4 * d + 1)) = C
  have htt : C.tt = (envG G).tt := by rw [← hC]; rfl
  have hlin : C.lin = [10, 5, 15, 13, 3, 2, 1000015] := by rw [← hC]; rfl
  have hreg : C.reg = reg17 := by rw [← hC]; rfl
  have hcall : C.call = callN (envG G) F (n + 4 * d + 1) := by rw [← hC]; rfl
  have hcallP : C.callP = callP (envG G) F (n + 4 * d + 1) := by rw [← hC]; rfl
  by_cases h0 : badW x = 0
  · have k2' := k2 h0
    rw [h0] at k1
    simp [htt, hlin, hreg, reg17, hcall, hcallP, k1, k2', h0]
  · simp [h0] at k1
    simp [htt, hlin, hreg, reg17, hcall, hcallP, k1, h0]
end Go.Proofs.YtjmcgdhekjkjfaaDoor
