/- The reference's numbers: From. -/
import Derived.Test.YtjmcgdhekjkjfaaGreatDoorSH
import Derived.Test.YtjmcgdhekjkjfaaGreatDoorVMU
import Derived.Test.YtjmcgdhekjkjfaaGreatDoorSF
import Derived.Test.YtjmcgdhekjkjfaaGreatDoorSG
import Derived.Test.YtjmcgdhekjkjfaaGreatDoorVMS
set_option linter.unusedSimpArgs false
set_option linter.unusedVariables false
namespace Go.Proofs.YtjmcgdhekjkjfaaGreatDoor
open Go Go.VM
variable {G : GE}
set_option maxRecDepth 100000
set_option maxHeartbeats 4000000
def mulV : Int → Nat → Int
  | v, 0 => v
  | v, d + 1 => mulV (IntKind.u64.wrap (v * 256)) d
theorem mulV_eq {v : Int} (h0 : 0 ≤ v) (h1 : v < 256) (d : Nat) (hd : d < 4) : mulV v d = v * 256 ^ d := by
  have : d = 0 ∨ d = 1 ∨ d = 2 ∨ d = 3 := by omega
  rcases this with rfl | rfl | rfl | rfl <;> simp only [mulV, Int.reducePow] <;> (try rw [u64_wrap]) <;> (try rw [u64_wrap]) <;> (try rw [u64_wrap]) <;> omega
def fpart (b : List Int) (i q j : Nat) : Int := if 4 * q + j < i then b.getD (b.length - 1 - (4 * q + j)) 0 * 256 ^ j else 0
def fdig (b : List Int) (i q : Nat) : Int := fpart b i q 0 + fpart b i q 1 + fpart b i q 2 + fpart b i q 3
def fromL (b : List Int) (i : Nat) : List Int := (List.range (b.length / 4 + 1)).map (fdig b i)
theorem fromL_len (b : List Int) (i : Nat) : (fromL b i).length = b.length / 4 + 1 := by simp [fromL]
theorem getD_byte {b : List Int} (hb : ∀ c ∈ b, 0 ≤ c ∧ c < 256) (i : Nat) : 0 ≤ b.getD i 0 ∧ b.getD i 0 < 256 := by
  rcases Nat.lt_or_ge i b.length with h1 | h1
  · have : b.getD i 0 = b[i] := by simp [List.getD, h1]
    rw [this]
    exact hb _ (List.getElem_mem h1)
  · have : b.getD i 0 = 0 := by simp [List.getD, List.getElem?_eq_none h1]
    omega
theorem fdig_in {b : List Int} (hb : ∀ c ∈ b, 0 ≤ c ∧ c < 256) (i q : Nat) : 0 ≤ fdig b i q ∧ fdig b i q < 4294967296 := by
  have h0 := getD_byte hb (b.length - 1 - (4 * q + 0))
  have h1 := getD_byte hb (b.length - 1 - (4 * q + 1))
  have h2 := getD_byte hb (b.length - 1 - (4 * q + 2))
  have h3 := getD_byte hb (b.length - 1 - (4 * q + 3))
  unfold fdig fpart
  simp only [Int.reducePow]
  split <;> split <;> split <;> split <;> omega
theorem fdig_ne (b : List Int) {i q : Nat} (h : q ≠ i / 4) : fdig b (i + 1) q = fdig b i q := by
  have e : ∀ j, j < 4 → fpart b (i + 1) q j = fpart b i q j := fun j hj => by
    unfold fpart
    by_cases h1 : 4 * q + j < i
    · rw [if_pos h1, if_pos (by omega)]
    · rw [if_neg h1, if_neg (by omega)]
  simp only [fdig, e 0 (by omega), e 1 (by omega), e 2 (by omega), e 3 (by omega)]
theorem fdig_eq (b : List Int) (i : Nat) : fdig b (i + 1) (i / 4) = fdig b i (i / 4) + b.getD (b.length - 1 - i) 0 * 256 ^ (i % 4) := by
  obtain ⟨q, r, hi, hr⟩ : ∃ q r, i = 4 * q + r ∧ r < 4 := ⟨i / 4, i % 4, by omega, by omega⟩
  subst hi
  rw [show (4 * q + r) / 4 = q by omega, show (4 * q + r) % 4 = r by omega]
  unfold fdig fpart
  have : r = 0 ∨ r = 1 ∨ r = 2 ∨ r = 3 := by omega
  rcases this with rfl | rfl | rfl | rfl
  · rw [if_pos (by omega), if_neg (by omega), if_neg (by omega), if_neg (by omega), if_neg (by omega), if_neg (by omega), if_neg (by omega), if_neg (by omega)]; omega
  · rw [if_pos (by omega), if_pos (by omega), if_neg (by omega), if_neg (by omega), if_pos (by omega), if_neg (by omega), if_neg (by omega), if_neg (by omega)]; omega
  · rw [if_pos (by omega), if_pos (by omega), if_pos (by omega), if_neg (by omega), if_pos (by omega), if_pos (by omega), if_neg (by omega), if_neg (by omega)]; omega
  · rw [if_pos (by omega), if_pos (by omega), if_pos (by omega), if_pos (by omega), if_pos (by omega), if_pos (by omega), if_pos (by omega), if_neg (by omega)]; omega
theorem fromL_succ (b : List Int) (i : Nat) (h : i < b.length) : (fromL b i).set (i / 4) (fdig b i (i / 4) + b.getD (b.length - 1 - i) 0 * 256 ^ (i % 4)) = fromL b (i + 1) := by
  rw [← fdig_eq]
  apply List.ext_getElem?
  intro k
  rw [List.getElem?_set]
  by_cases hk : i / 4 = k
  · subst hk
    rw [if_pos rfl, if_pos (by rw [fromL_len]; omega)]
    unfold fromL
    rw [List.getElem?_map, List.getElem?_range (by omega)]
    rfl
  · rw [if_neg hk]
    unfold fromL
    rw [List.getElem?_map, List.getElem?_map]
    rcases Nat.lt_or_ge k (b.length / 4 + 1) with h1 | h1
    · rw [List.getElem?_range h1]
      simp only [Option.map_some]
      rw [fdig_ne b (fun h => hk h.symm)]
    · rw [List.getElem?_eq_none (by simpa using h1)]
      rfl
theorem fromL_zero (b : List Int) : fromL b 0 = List.replicate (b.length / 4 + 1) 0 := by
  unfold fromL
  have : fdig b 0 = fun _ => 0 := funext fun q => by simp [fdig, fpart]
  rw [this, List.map_const', List.length_range]
theorem loop_from_in {m : Nat} {C : Ctx} {F : Nat} (hC : (envG G).ctx 46 (callN (envG G) F (m)) (callP (envG G) F (m)) = C) {c : Code} (hc : loopAt 8 Tryz.f46 = some c) (nl : Bool) (b : List Int) (n : Nat) (i r : Nat) (hr : i % 4 = r) (hi : i ≤ 140737488355328) (xs : List Int) :
    ∀ (d j : Nat) (v : Int) (k : Nat) (st : St), j + d = r → d < k → st.trim 1 [0, 3, 4, 6, 7] = ⟨[(0, .d (.nums .u8 nl b)), (3, .mu 0 0 n n 1), (4, .d (.int .i64 i)), (6, .d (.int .u64 v)), (7, .d (.int .i64 j))], [some (.ints false .u64 xs)], []⟩ →
      iter (ev C F c) 1 [0, 3, 4, 6, 7] [0, 2, 3, 4, 6] k st = some (.exit 2, ⟨[(0, .d (.nums .u8 nl b)), (3, .mu 0 0 n n 1), (4, .d (.int .i64 i)), (6, .d (.int .u64 (mulV v d)))], [some (.ints false .u64 xs)], []⟩) := by
  have htt : C.tt = (envG G).tt := by rw [← hC]; rfl
  have hlin : C.lin = [] := by rw [← hC]; rfl
  have hreg : C.reg = reg46 := by rw [← hC]; rfl
  have hcall : C.call = callN (envG G) F (m) := by rw [← hC]; rfl
  have hcallP : C.callP = callP (envG G) F (m) := by rw [← hC]; rfl
  have hlv_3 : C.live 3 = [0, 3, 4] := by rw [← hC]; rfl
  have hlv_100003 : C.live 100003 = [2, 3] := by rw [← hC]; rfl
  have hlv_8 : C.live 8 = [0, 3, 4, 6, 7] := by rw [← hC]; rfl
  have hlv_100008 : C.live 100008 = [0, 2, 3, 4, 6] := by rw [← hC]; rfl
  have hev : ∀ st, ev C F c st = ev C F ((loopAt 8 Tryz.f46).getD .skip) st := fun st => by rw [hc]; rfl
  have e0 : (i : Int).tmod 4 = r := by rw [Int.tmod_eq_emod_of_nonneg (by omega)]; omega
  have e4 : (-9223372036854775808 : Int) ≤ r := by omega
  have e5 : (r : Int) ≤ 9223372036854775807 := by omega
  intro d
  induction d with
  | zero =>
    intro j v k st hj hk hst
    obtain ⟨k, rfl⟩ : ∃ j, k = j + 1 := ⟨k - 1, by omega⟩
    have e1 : ¬ (j : Int) < r := by omega
    rw [iter_eq, hst, hev]
    simp [loopAt, findLoop, Tryz.f46, htt, hlin, hreg, reg46, hcall, hcallP, hlv_3, hlv_100003, hlv_8, hlv_100008, mulV, e0, e1, e4, e5]
  | succ d ih =>
    intro j v k st hj hk hst
    obtain ⟨k, rfl⟩ : ∃ j, k = j + 1 := ⟨k - 1, by omega⟩
    have e1 : (j : Int) < r := by omega
    have e2 : (j : Int) + 1 ≤ 9223372036854775807 := by omega
    have e3 : (-9223372036854775808 : Int) ≤ (j : Int) + 1 := by omega
    have ih' := fun st h => ih (j + 1) (IntKind.u64.wrap (v * 256)) k st (by omega) (by omega) h
    rw [iter_eq, hst, hev]
    simp [loopAt, findLoop, Tryz.f46, htt, hlin, hreg, reg46, hcall, hcallP, hlv_3, hlv_100003, hlv_8, hlv_100008, mulV, e0, e1, e2, e3, e4, e5]
    exact ih' _ (by simp)
theorem loop_from {m : Nat} {C : Ctx} {F : Nat} (hC : (envG G).ctx 46 (callN (envG G) F (m)) (callP (envG G) F (m)) = C) {c : Code} (hc : loopAt 3 Tryz.f46 = some c) (nl : Bool) (b : List Int) (hb : ∀ c ∈ b, 0 ≤ c ∧ c < 256) (hx : b.length ≤ 140737488355328) (hF : 4 < F) :
    ∀ (d i : Nat) (k : Nat) (st : St), i + d = b.length → d < k → st.trim 1 [0, 3, 4] = ⟨[(0, .d (.nums .u8 nl b)), (3, .mu 0 0 (b.length / 4 + 1) (b.length / 4 + 1) 1), (4, .d (.int .i64 i))], [some (.ints false .u64 (fromL b i))], []⟩ →
      iter (ev C F c) 1 [0, 3, 4] [2, 3] k st = some (.exit 0, ⟨[(3, .mu 0 0 (b.length / 4 + 1) (b.length / 4 + 1) 1)], [some (.ints false .u64 (fromL b b.length))], []⟩) := by
  have hI := fun i hi xs d j v st h1 h2 => loop_from_in (G := G) hC rfl nl b (b.length / 4 + 1) i (i % 4) rfl hi xs d j v F st h1 h2
  have htt : C.tt = (envG G).tt := by rw [← hC]; rfl
  have hlin : C.lin = [] := by rw [← hC]; rfl
  have hreg : C.reg = reg46 := by rw [← hC]; rfl
  have hcall : C.call = callN (envG G) F (m) := by rw [← hC]; rfl
  have hcallP : C.callP = callP (envG G) F (m) := by rw [← hC]; rfl
  have hlv_3 : C.live 3 = [0, 3, 4] := by rw [← hC]; rfl
  have hlv_100003 : C.live 100003 = [2, 3] := by rw [← hC]; rfl
  have hlv_8 : C.live 8 = [0, 3, 4, 6, 7] := by rw [← hC]; rfl
  have hlv_100008 : C.live 100008 = [0, 2, 3, 4, 6] := by rw [← hC]; rfl
  have hev : ∀ st, ev C F c st = ev C F ((loopAt 3 Tryz.f46).getD .skip) st := fun st => by rw [hc]; rfl
  clear hC
  intro d
  induction d with
  | zero =>
    intro i k st hj hk hst
    obtain ⟨k, rfl⟩ : ∃ j, k = j + 1 := ⟨k - 1, by omega⟩
    have e1 : ¬ (i : Int) < b.length := by omega
    have e2 : i = b.length := by omega
    rw [iter_eq, hst, hev]
    simp [loopAt, findLoop, Tryz.f46, htt, hlin, hreg, reg46, hcall, hcallP, hlv_3, hlv_100003, hlv_8, hlv_100008, e1]
    rw [e2]
  | succ d ih =>
    intro i k st hj hk hst
    obtain ⟨k, rfl⟩ : ∃ j, k = j + 1 := ⟨k - 1, by omega⟩
    have e1 : (i : Int) < b.length := by omega
    have e2 : (i : Int) + 1 ≤ 9223372036854775807 := by omega
    have e3 : (-9223372036854775808 : Int) ≤ (i : Int) + 1 := by omega
    obtain ⟨p, hp⟩ : ∃ p, p = b.length - 1 - i := ⟨_, rfl⟩
    obtain ⟨q, hq0⟩ : ∃ q, q = i / 4 := ⟨_, rfl⟩
    have f1 : (b.length : Int) - 1 - i = (p : Int) := by omega
    have f2 : p < b.length := by omega
    have f3 : (-9223372036854775808 : Int) ≤ (b.length : Int) - 1 := by omega
    have f4 : (b.length : Int) - 1 ≤ 9223372036854775807 := by omega
    have f5 : (i : Int) / 4 = (q : Int) := by omega
    have f6 : q < (fromL b i).length := by rw [fromL_len]; omega
    have f6' : q + 1 ≤ (fromL b i).length := f6
    have f7 : (q : Int) < (b.length : Int) / 4 + 1 := by omega
    have f8 : (-9223372036854775808 : Int) ≤ (p : Int) := by omega
    have f9 : (p : Int) ≤ 9223372036854775807 := by omega
    have h8 : (-9223372036854775808 : Int) ≤ (q : Int) := by omega
    have h9 : (q : Int) ≤ 9223372036854775807 := by omega
    have ih' := fun st h => ih (i + 1) k st (by omega) (by omega) h
    rw [← fromL_succ b i (by omega)] at ih'
    have hq := fdig_in hb i q
    have hz := mulV_eq (getD_byte hb p).1 (getD_byte hb p).2 (i % 4) (by omega)
    have hq2 := fdig_in hb (i + 1) q
    rw [hq0, fdig_eq, ← hp, ← hz, ← hq0] at hq2
    rw [← hp, ← hz, ← hq0] at ih'
    have g0 : b.getD p 0 = b[p] := by simp [List.getD, f2]
    have g1 : (fromL b i).drop q = fdig b i q :: (fromL b i).drop (q + 1) := by
      rw [List.drop_eq_getElem_cons f6]
      simp [fromL]
    have w1 : IntKind.u64.wrap b[p] = b[p] := by
      have := hb _ (List.getElem_mem f2)
      exact ok_u64 (by omega) (by omega)
    rw [g0] at hq2 ih'
    have hI' := fun st => hI i (by omega) (fromL b i) (i % 4) 0 b[p] st (by omega) (by omega)
    have w2 := ok_u64 hq2.1 (by omega)
    clear hI hz hq hq2 ih hp hq0
    rw [List.set_eq_take_append_cons_drop, if_pos f6] at ih'
    generalize mulV b[p] (i % 4) = z at *
    rw [iter_eq, hst, hev]
    simp [loopAt, findLoop, Tryz.f46, htt, hlin, hreg, reg46, hcall, hcallP, hlv_3, hlv_100003, hlv_8, hlv_100008, ev_loop, e1, e2, e3, f1, f2, f3, f4, f5, f6, f7, f8, f9, h8, h9, w1]
    rw [hI' _ (by simp)]
    simp [loopAt, findLoop, Tryz.f46, htt, hlin, hreg, reg46, hcall, hcallP, hlv_3, hlv_100003, hlv_8, hlv_100008, ev_loop, e1, e2, e3, f1, f2, f3, f4, f5, f6, f7, f8, f9, h8, h9, w2, g1, f6']
    exact ih' _ (by simp)
theorem t_From (F n : Nat) (nl : Bool) (b : List Int) (hb : ∀ c ∈ b, 0 ≤ c ∧ c < 256) (hx : b.length ≤ 1048576) (hF : 1048580 < F) :
    callN (envG G) F (n+2) 46 [.d (.nums .u8 nl b)] = some ⟨[.d (.nums .u64 false (trimL (fromL b b.length)))], []⟩ := by
  have hl := fromL_len b b.length
  have k := t_Trim (G := G) F n false (fromL b b.length) (by omega) (by omega)
  rw [callN_run (fn := Tryz.f46) rfl rfl rfl (by simp [Tryz.ntmps46])]
  generalize hC : (envG G).ctx 46 (callN (envG G) F (n+1)) (callP (envG G) F (n+1)) = C
  have htt : C.tt = (envG G).tt := by rw [← hC]; rfl
  have hlin : C.lin = [] := by rw [← hC]; rfl
  have hreg : C.reg = reg46 := by rw [← hC]; rfl
  have hcall : C.call = callN (envG G) F (n+1) := by rw [← hC]; rfl
  have hcallP : C.callP = callP (envG G) F (n+1) := by rw [← hC]; rfl
  have hlv_3 : C.live 3 = [0, 3, 4] := by rw [← hC]; rfl
  have hlv_100003 : C.live 100003 = [2, 3] := by rw [← hC]; rfl
  have hlv_8 : C.live 8 = [0, 3, 4, 6, 7] := by rw [← hC]; rfl
  have hlv_100008 : C.live 100008 = [0, 2, 3, 4, 6] := by rw [← hC]; rfl
  have hL := fun st h => loop_from (G := G) hC rfl nl b hb (by omega) (by omega) b.length 0 F st (by omega) (by omega) h
  clear hC
  obtain ⟨q, hq⟩ : ∃ q, q = b.length / 4 := ⟨_, rfl⟩
  rw [← hq] at hL hl
  have f5 : (b.length : Int) / 4 = (q : Int) := by omega
  have f6 : (q : Int) + 1 ≤ 9223372036854775807 := by omega
  have f7 : (-9223372036854775808 : Int) ≤ (q : Int) + 1 := by omega
  have f8 : (q : Int) ≤ 9223372036854775807 := by omega
  have f9 : (-9223372036854775808 : Int) ≤ (q : Int) := by omega
  have g1 : (q : Int) + 1 ≤ 140737488355328 := by omega
  have g2 : (0 : Int) ≤ (q : Int) + 1 := by omega
  have g3 : ((q : Int) + 1).toNat = q + 1 := by omega
  have g4 : (8 : Int) * ((q : Int) + 1) ≤ 281474976710656 := by omega
  rw [fromL_zero, ← hq] at hL
  generalize trimL (fromL b b.length) = r at *
  generalize fromL b b.length = xs at *
  simp [htt, hlin, hreg, reg46, hcall, hcallP, hlv_3, hlv_100003, hlv_8, hlv_100008, ev_loop, f5, f6, f7, f8, f9, g1, g2, g3, g4]
  rw [hL _ (by simp)]
  have g5 : xs.take (q + 1) = xs := by rw [← hl, List.take_length]
  simp [htt, hlin, hreg, reg46, hcall, hcallP, hlv_3, hlv_100003, hlv_8, hlv_100008, k, g5]
end Go.Proofs.YtjmcgdhekjkjfaaGreatDoor
set_option linter.unusedSimpArgs false
set_option linter.unusedVariables false
namespace Go.Proofs.YtjmcgdhekjkjfaaGreatDoor
open Go Go.VM
variable {G : GE}
set_option maxRecDepth 100000
set_option maxHeartbeats 4000000
theorem t_rNumber (F n : Nat) (nl : Bool) (b : List Int) (hnl : nl = true → b = []) (hl : b.length ≤ 140737488355327) :
    callN (envG G) F (n+1) 44 [.d (.nums .u8 nl b)] = some (match numB b with
    | .inl e => ⟨[.d (.nums .u8 true []), .d (.int .i64 e)], [0]⟩
    | .inr ys => ⟨[.d (.nums .u8 false ys), .d (.int .i64 0)], if b.head? = some 0 then [] else [0]⟩) := by
  rw [callN_run (fn := Tryz.f44) rfl rfl rfl (by simp [Tryz.ntmps44])]
  generalize hC : (envG G).ctx 44 (callN (envG G) F (n)) (callP (envG G) F (n)) = C
  have htt : C.tt = (envG G).tt := by rw [← hC]; rfl
  have hlin : C.lin = [39, 33, 4, 43, 3, 2, 31] := by rw [← hC]; rfl
  have hreg : C.reg = reg44 := by rw [← hC]; rfl
  have hcall : C.call = callN (envG G) F (n) := by rw [← hC]; rfl
  have hcallP : C.callP = callP (envG G) F (n) := by rw [← hC]; rfl
  cases b with
  | nil => simp [htt, hlin, hreg, reg44, hcall, hcallP, numB]
  | cons x t =>
    have hnf : nl = false := by cases nl with | false => rfl | true => cases hnl rfl
    subst hnf
    simp only [List.length_cons] at hl
    have e0 : ¬ ((t.length : Int) + 1 = 0) := by omega
    have e9 : (0 : Int) < (t.length : Int) + 1 := by omega
    have e10 : (1 : Int) ≤ (t.length : Int) + 1 := by omega
    have hl2 : t.length + 1 ≤ 140737488355328 := by omega
    have hl3 : t.length ≤ 140737488355327 := by omega
    by_cases h1 : 128 ≤ x
    · have h1' : 127 < x := by omega
      simp [htt, hlin, hreg, reg44, hcall, hcallP, numB, h1, h1', e0, e9]
    · have h1' : ¬ 127 < x := by omega
      by_cases h2 : x = 0
      · subst h2
        cases t with
        | nil => simp [htt, hlin, hreg, reg44, hcall, hcallP, numB]
        | cons y u =>
          simp only [List.length_cons] at hl e0 e9 hl2 hl3
          have e1 : (1 : Int) < (u.length : Int) + 1 + 1 := by omega
          have e2 : ¬ ((u.length : Int) + 1 + 1 = 0) := by omega
          have e7 : (1 : Int) ≤ (u.length : Int) + 1 + 1 := by omega
          by_cases h3 : y < 128
          · simp [htt, hlin, hreg, reg44, hcall, hcallP, numB, e1, e2, e7, h3]
          · by_cases h4 : 64 < u.length + 1
            · have e5 : (64 : Int) < (u.length : Int) + 1 := by omega
              simp [htt, hlin, hreg, reg44, hcall, hcallP, numB, e1, e2, e7, h3, h4, e5, hl2, hl3]
            · have e5 : ¬ (64 : Int) < (u.length : Int) + 1 := by omega
              simp [htt, hlin, hreg, reg44, hcall, hcallP, numB, e1, e2, e7, h3, h4, e5, hl2, hl3]
      · by_cases h4 : 64 < t.length + 1
        · have e5 : (64 : Int) < (t.length : Int) + 1 := by omega
          by_cases e8 : (1 : Int) < (t.length : Int) + 1 <;> simp [htt, hlin, hreg, reg44, hcall, hcallP, numB, h1, h1', h2, e0, h4, e5, e8, hl2, hl3]
        · have e5 : ¬ (64 : Int) < (t.length : Int) + 1 := by omega
          by_cases e8 : (1 : Int) < (t.length : Int) + 1 <;> simp [htt, hlin, hreg, reg44, hcall, hcallP, numB, h1, h1', h2, e0, h4, e5, e8, hl2, hl3]
end Go.Proofs.YtjmcgdhekjkjfaaGreatDoor
set_option linter.unusedSimpArgs false
set_option linter.unusedVariables false
namespace Go.Proofs.YtjmcgdhekjkjfaaGreatDoor
open Go Go.VM
variable {G : GE}
set_option maxRecDepth 100000
set_option maxHeartbeats 4000000
def numV (b : List Int) : List Int := match numB b with | .inl _ => [] | .inr ys => ys
def numOk (b : List Int) : Bool := match numB b with | .inl _ => false | .inr _ => true
theorem t_digits (F n : Nat) (x1 x2 : Int) (x3 x4 : Bool) (x5 : List Int) (x6 : Bool) (x7 : List Tlv) (hn : x4 = true → x5 = []) (hx : x5.length ≤ 140737488355328) :
    ∃ nl, callN (envG G) F (n+3) 62 [.d (.agg [.int .i64 x1, .int .i64 x2, .bool x3, .nums .u8 x4 x5, .sl 5 x6 (Tlv.cellsL x7)])] =
      some (if x1 = 0 ∧ x2 = 2 ∧ x3 = false then ⟨[.d (.nums .u8 nl (numV x5)), .d (.bool (numOk x5))], []⟩ else ⟨[.d (.nums .u8 true []), .d (.bool false)], []⟩) ∧ (nl = true → numV x5 = []) := by
  have k := t_Number (G := G) F n x4 x5 hn hx
  cases hb : numB x5 with
  | inl e =>
    refine ⟨true, ?_, fun _ => by simp [numV, hb]⟩
    rw [hb] at k
    simp only [numV, numOk, hb]
    rw [callN_run (fn := Tryz.f62) rfl rfl rfl (by simp [Tryz.ntmps62])]
    generalize hC : (envG G).ctx 62 (callN (envG G) F (n+2)) (callP (envG G) F (n+2)) = C
    have htt : C.tt = (envG G).tt := by rw [← hC]; rfl
    have hlin : C.lin = [] := by rw [← hC]; rfl
    have hreg : C.reg = reg62 := by rw [← hC]; rfl
    have hcall : C.call = callN (envG G) F (n+2) := by rw [← hC]; rfl
    have hcallP : C.callP = callP (envG G) F (n+2) := by rw [← hC]; rfl
    have hlv_200004 : C.live 200004 = [] := by rw [← hC]; rfl
    have hlv_250004 : C.live 250004 = [] := by rw [← hC]; rfl
    clear hC
    unfold err at k
    by_cases h1 : x1 = 0
    · by_cases h2 : x2 = 2
      · cases x3
        · simp [htt, hlin, hreg, reg62, hcall, hcallP, hlv_200004, hlv_250004, h1, h2, k]
        · simp [htt, hlin, hreg, reg62, hcall, hcallP, hlv_200004, hlv_250004, h1, h2, k]
      · simp [htt, hlin, hreg, reg62, hcall, hcallP, hlv_200004, hlv_250004, h1, h2, k]
    · simp [htt, hlin, hreg, reg62, hcall, hcallP, hlv_200004, hlv_250004, h1, k]
  | inr ys =>
    refine ⟨false, ?_, fun h => by cases h⟩
    rw [hb] at k
    simp only [numV, numOk, hb]
    rw [callN_run (fn := Tryz.f62) rfl rfl rfl (by simp [Tryz.ntmps62])]
    generalize hC : (envG G).ctx 62 (callN (envG G) F (n+2)) (callP (envG G) F (n+2)) = C
    have htt : C.tt = (envG G).tt := by rw [← hC]; rfl
    have hlin : C.lin = [] := by rw [← hC]; rfl
    have hreg : C.reg = reg62 := by rw [← hC]; rfl
    have hcall : C.call = callN (envG G) F (n+2) := by rw [← hC]; rfl
    have hcallP : C.callP = callP (envG G) F (n+2) := by rw [← hC]; rfl
    have hlv_200004 : C.live 200004 = [] := by rw [← hC]; rfl
    have hlv_250004 : C.live 250004 = [] := by rw [← hC]; rfl
    clear hC
    by_cases h1 : x1 = 0
    · by_cases h2 : x2 = 2
      · cases x3
        · simp [htt, hlin, hreg, reg62, hcall, hcallP, hlv_200004, hlv_250004, h1, h2, k]
        · simp [htt, hlin, hreg, reg62, hcall, hcallP, hlv_200004, hlv_250004, h1, h2, k]
      · simp [htt, hlin, hreg, reg62, hcall, hcallP, hlv_200004, hlv_250004, h1, h2, k]
    · simp [htt, hlin, hreg, reg62, hcall, hcallP, hlv_200004, hlv_250004, h1, k]
def limbs (b : List Int) : List Int := L6 fun i => (List.replicate (48 - b.length) 0 ++ b).getD i 0
theorem range_getD (l : List Int) : (List.range l.length).map (fun i => l.getD i 0) = l := by
  apply List.ext_getElem?
  intro k
  rw [List.getElem?_map]
  rcases Nat.lt_or_ge k l.length with h | h
  · rw [List.getElem?_range h]
    simp [List.getD, h]
  · rw [List.getElem?_eq_none (by simpa using h), List.getElem?_eq_none h]
    rfl
theorem zeros_len {b : List Int} (h : b.length ≤ 48) : (List.replicate (48 - b.length) (0 : Int) ++ b).length = 48 := by simp; omega
theorem limbs_ok {b : List Int} (hb : ∀ c ∈ b, 0 ≤ c ∧ c < 256) (h : b.length ≤ 48) : val 0 b = wL (limbs b) ∧ In64 (limbs b) := by
  have hz : ∀ c ∈ List.replicate (48 - b.length) (0 : Int) ++ b, 0 ≤ c ∧ c < 256 := by
    intro c hc
    rw [List.mem_append, List.mem_replicate] at hc
    rcases hc with ⟨_, rfl⟩ | hc
    · omega
    · exact hb c hc
  have := val_L6 (fun i => (List.replicate (48 - b.length) 0 ++ b).getD i 0) (fun i => getD_byte hz i)
  have e := range_getD (List.replicate (48 - b.length) (0 : Int) ++ b)
  rw [zeros_len h] at e
  rw [e] at this
  refine ⟨?_, this.2⟩
  rw [← show _ = wL (limbs b) from this.1]
  have : ∀ k, val 0 (List.replicate k (0 : Int) ++ b) = val 0 b := by
    intro k
    induction k with
    | zero => rfl
    | succ k ih => simpa [List.replicate_succ, val] using ih
  exact (this _).symm
theorem t_limbFrom (F n : Nat) (hF : 60 ≤ F) (b : List Int) (h : b.length = 48) : callN (envG G) F (n+3) 82 [.d (.nums .u8 false b)] = some ⟨[.d (limbD (L6 fun i => b.getD i 0)), .d .nilifc], []⟩ := by
  have k := callN_mono hF (show 3 ≤ n + 3 by omega) (run_From (G := G) (fun i => b.getD i 0))
  have e := range_getD b
  rw [h] at e
  rw [e] at k
  exact k
theorem L6_len (g : Nat → Int) : (L6 g).length = 6 := by simp [L6]
theorem six {l : List Int} (h : l.length = 6) : ∃ a b c d e f, l = [a, b, c, d, e, f] := by
  rcases l with _ | ⟨a, _ | ⟨b, _ | ⟨c, _ | ⟨d, _ | ⟨e, _ | ⟨f, _ | ⟨g, t⟩⟩⟩⟩⟩⟩⟩ <;> simp at h
  exact ⟨a, b, c, d, e, f, rfl⟩
theorem t_read (hK : SubK G) (hg : GroupG G) (F n : Nat) (hF : 60 ≤ F) (nl : Bool) (b : List Int) (hnl : nl = true → b = []) (hb : ∀ c ∈ b, 0 ≤ c ∧ c < 256) (hl : b.length ≤ 140737488355327) :
    callN (envG G) F (n+5) 63 [.d (.nums .u8 nl b)] = some (if 48 < b.length then ⟨[.d (limbD [0, 0, 0, 0, 0, 0]), .d (.bool false)], []⟩ else ⟨[.d (limbD (limbs b)), .d (.bool (isScalar (limbs b)))], []⟩) := by
  by_cases h : 48 < b.length
  · have e1 : (48 : Int) < b.length := by omega
    rw [if_pos h]
    rw [callN_run (fn := Tryz.f63) rfl rfl rfl (by simp [Tryz.ntmps63])]
    generalize hC : (envG G).ctx 63 (callN (envG G) F (n+4)) (callP (envG G) F (n+4)) = C
    have htt : C.tt = (envG G).tt := by rw [← hC]; rfl
    have hlin : C.lin = [26, 3, 14] := by rw [← hC]; rfl
    have hreg : C.reg = reg63 := by rw [← hC]; rfl
    have hcall : C.call = callN (envG G) F (n+4) := by rw [← hC]; rfl
    have hcallP : C.callP = callP (envG G) F (n+4) := by rw [← hC]; rfl
    have hlv_200004 : C.live 200004 = [4, 7] := by rw [← hC]; rfl
    have hlv_250004 : C.live 250004 = [] := by rw [← hC]; rfl
    have hlv_300004 : C.live 300004 = [2] := by rw [← hC]; rfl
    clear hC
    simp only [limbD, List.map]
    simp [htt, hlin, hreg, reg63, hcall, hcallP, hlv_200004, hlv_250004, hlv_300004, e1]
  · rw [if_neg h]
    have h2 : b.length ≤ 48 := by omega
    have hz := zeros_len h2
    have k1 := t_limbFrom (G := G) F (n+1) hF (List.replicate (48 - b.length) 0 ++ b) hz
    obtain ⟨_, hin⟩ := limbs_ok hb h2
    obtain ⟨a0, a1, a2, a3, a4, a5, he⟩ := six (L6_len fun i => (List.replicate (48 - b.length) 0 ++ b).getD i 0)
    have k2 := t_eScalar (G := G) hK hg F n (by omega) a0 a1 a2 a3 a4 a5 (by rw [← he]; exact hin)
    unfold limbs at *
    rw [he] at k1 hin ⊢
    clear hin he hK hg
    generalize isScalar [a0, a1, a2, a3, a4, a5] = sc at *
    simp only [limbD, List.map] at *
    obtain ⟨p, hp⟩ : ∃ p, p = 48 - b.length := ⟨_, rfl⟩
    rw [← hp] at k1 hz
    have e1 : ¬ (48 : Int) < b.length := by omega
    have e2 : (48 : Int) - b.length = (p : Int) := by omega
    have e3 : (p : Int) ≤ 9223372036854775807 := by omega
    have e4 : (-9223372036854775808 : Int) ≤ p := by omega
    have e5 : (p : Int) ≤ 281474976710656 := by omega
    have e6 : p + b.length ≤ 140737488355328 := by omega
    rw [callN_run (fn := Tryz.f63) rfl rfl rfl (by simp [Tryz.ntmps63])]
    generalize hC : (envG G).ctx 63 (callN (envG G) F (n+4)) (callP (envG G) F (n+4)) = C
    have htt : C.tt = (envG G).tt := by rw [← hC]; rfl
    have hlin : C.lin = [26, 3, 14] := by rw [← hC]; rfl
    have hreg : C.reg = reg63 := by rw [← hC]; rfl
    have hcall : C.call = callN (envG G) F (n+4) := by rw [← hC]; rfl
    have hcallP : C.callP = callP (envG G) F (n+4) := by rw [← hC]; rfl
    have hlv_200004 : C.live 200004 = [4, 7] := by rw [← hC]; rfl
    have hlv_250004 : C.live 250004 = [] := by rw [← hC]; rfl
    have hlv_300004 : C.live 300004 = [2] := by rw [← hC]; rfl
    clear hC
    simp [htt, hlin, hreg, reg63, hcall, hcallP, hlv_200004, hlv_250004, hlv_300004, e1, e2, e3, e4, e5, e6, k1, k2]
end Go.Proofs.YtjmcgdhekjkjfaaGreatDoor
set_option linter.unusedSimpArgs false
set_option linter.unusedVariables false
namespace Go.Proofs.YtjmcgdhekjkjfaaGreatDoor
open Go Go.VM
variable {G : GE}
set_option maxRecDepth 100000
set_option maxHeartbeats 16000000
def Tlv.isSmall : Tlv → Bool
  | .mk x1 x2 x3 _ x5 _ _ => decide (x1 = 0 ∧ x2 = 2 ∧ x3 = false) && smallOk x5
def Tlv.valS : Tlv → Int
  | .mk _ _ _ _ x5 _ _ => smallV x5
def Tlv.plainOk : Tlv → Prop
  | .mk _ _ _ x4 x5 _ _ => (x4 = true → x5 = []) ∧ x5.length ≤ 140737488355327 ∧ ∀ x ∈ x5, 0 ≤ x ∧ x < 256
theorem t_SmallOf' (F n : Nat) (hF : 100 ≤ F) (x : Tlv) (h : x.plainOk) : ∃ v, callN (envG G) F (n+4) 29 [.d (.agg x.cells)] = some ⟨[.d (.int .i64 v), .d (.bool x.isSmall)], []⟩ ∧ (x.isSmall = true → v = x.valS) := by
  obtain ⟨x1, x2, x3, x4, x5, x6, x7⟩ := x
  have k := t_SmallOf (G := G) F n hF x1 x2 x3 x4 x5 x6 x7 h.1 (by have := h.2.1; omega) h.2.2
  simp only [Tlv.cells, Tlv.isSmall, Tlv.valS]
  by_cases hc : x1 = 0 ∧ x2 = 2 ∧ x3 = false
  · rw [if_pos hc] at k
    exact ⟨_, by rw [k, decide_eq_true hc, Bool.true_and], fun _ => rfl⟩
  · rw [if_neg hc] at k
    exact ⟨_, by rw [k, decide_eq_false hc, Bool.false_and], fun h => by rw [decide_eq_false hc] at h; cases h⟩
def zeroM : Blk := .cells false [.d (.int .i64 0), .d (.int .i64 0), .d (.int .i64 0), .d (.int .i64 0), .d (.nums .u8 true []), .d (.nums .u8 true []), .d (.nums .u8 true [])]
def fourP : Blk := .cells false [.ptr 2 0, .ptr 2 1, .ptr 2 2, .ptr 2 3]
def tlvK (p0 p1 p2 p3 : D) (x6 : Bool) (x7 : List Tlv) : Blk := .cells false [.d p0, .d p1, .d p2, .d p3, .d (.sl 5 x6 (Tlv.cellsL x7))]
def zeroMD : D := .agg [.int .i64 0, .int .i64 0, .int .i64 0, .int .i64 0, .nums .u8 true [], .nums .u8 true [], .nums .u8 true []]
theorem loop_dec1 {m : Nat} {C : Ctx} {F : Nat} (hC : (envG G).ctx 12 (callN (envG G) F (m)) (callP (envG G) F (m)) = C) {c : Code} (hc : loopAt 8 Tryz.f12 = some c) (p0 p1 p2 p3 : D) (x6 : Bool) (x7 : List Tlv) (k0 k1 k2 k3 : Tlv) (v0 v1 v2 v3 : Int)
    (h0 : x7[0]? = some k0) (h1 : x7[1]? = some k1) (h2 : x7[2]? = some k2) (h3 : x7[3]? = some k3)
    (g0 : callN (envG G) F m 29 [.d (.agg k0.cells)] = some ⟨[.d (.int .i64 v0), .d (.bool k0.isSmall)], []⟩)
    (g1 : callN (envG G) F m 29 [.d (.agg k1.cells)] = some ⟨[.d (.int .i64 v1), .d (.bool k1.isSmall)], []⟩)
    (g2 : callN (envG G) F m 29 [.d (.agg k2.cells)] = some ⟨[.d (.int .i64 v2), .d (.bool k2.isSmall)], []⟩)
    (g3 : callN (envG G) F m 29 [.d (.agg k3.cells)] = some ⟨[.d (.int .i64 v3), .d (.bool k3.isSmall)], []⟩) (k : Nat) (st : St)
    (hst : st.trim 4 [2, 4, 6, 33, 34, 35] = ⟨[(2, .ptr 0 0), (4, .ptr 1 0), (6, .ptr 2 0), (33, .mu 3 0 4 4 1), (34, .d (.int .i64 4)), (35, .d (.int .i64 0))], [some zeroM, some (tlvK p0 p1 p2 p3 x6 x7), some zeroM, some fourP], []⟩) :
    if k0.isSmall && k1.isSmall && k2.isSmall && k3.isSmall then
      iter (ev C F c) 4 [2, 4, 6, 33, 34, 35] [2, 3, 4, 6] (k + 5) st = some (.exit 0, ⟨[(2, .ptr 0 0), (4, .ptr 1 0), (6, .ptr 2 0)], [some zeroM, some (tlvK p0 p1 p2 p3 x6 x7), some (.cells false [.d (.int .i64 v0), .d (.int .i64 v1), .d (.int .i64 v2), .d (.int .i64 v3), .d (.nums .u8 true []), .d (.nums .u8 true []), .d (.nums .u8 true [])]), some fourP], []⟩)
    else ∃ st', iter (ev C F c) 4 [2, 4, 6, 33, 34, 35] [2, 3, 4, 6] (k + 5) st = some (.ret, st') ∧ finish C Tryz.f12.results.toList (some (.ret, st')) = some ⟨[.d zeroMD, .d (err 7)], []⟩ := by
  have htt : C.tt = (envG G).tt := by rw [← hC]; rfl
  have hlin : C.lin = [] := by rw [← hC]; rfl
  have hreg : C.reg = reg12 := by rw [← hC]; rfl
  have hcall : C.call = callN (envG G) F (m) := by rw [← hC]; rfl
  have hcallP : C.callP = callP (envG G) F (m) := by rw [← hC]; rfl
  have hlv_8 : C.live 8 = [2, 4, 6, 33, 34, 35] := by rw [← hC]; rfl
  have hlv_100008 : C.live 100008 = [2, 3, 4, 6] := by rw [← hC]; rfl
  have hlv_17 : C.live 17 = [2, 4, 6, 11, 61, 62, 63] := by rw [← hC]; rfl
  have hlv_100017 : C.live 100017 = [2, 3, 6] := by rw [← hC]; rfl
  have hlv_200020 : C.live 200020 = [] := by rw [← hC]; rfl
  have hlv_250020 : C.live 250020 = [] := by rw [← hC]; rfl
  have hev : ∀ st, ev C F c st = ev C F ((loopAt 8 Tryz.f12).getD .skip) st := fun st => by rw [hc]; rfl
  have r0 : (Tlv.cellsL x7)[0]? = some k0.cells := by rw [cellsL_map, List.getElem?_map, h0]; rfl
  have r1 : (Tlv.cellsL x7)[1]? = some k1.cells := by rw [cellsL_map, List.getElem?_map, h1]; rfl
  have r2 : (Tlv.cellsL x7)[2]? = some k2.cells := by rw [cellsL_map, List.getElem?_map, h2]; rfl
  have r3 : (Tlv.cellsL x7)[3]? = some k3.cells := by rw [cellsL_map, List.getElem?_map, h3]; rfl
  clear h0 h1 h2 h3
  unfold zeroM fourP tlvK at *
  unfold zeroMD err
  generalize hs0 : k0.isSmall = s0 at *
  generalize hs1 : k1.isSmall = s1 at *
  generalize hs2 : k2.isSmall = s2 at *
  generalize hs3 : k3.isSmall = s3 at *
  obtain ⟨a1, a2, a3, a4, a5, a6, a7⟩ := k0
  obtain ⟨b1, b2, b3, b4, b5, b6, b7⟩ := k1
  obtain ⟨c1, c2, c3, c4, c5, c6, c7⟩ := k2
  obtain ⟨d1, d2, d3, d4, d5, d6, d7⟩ := k3
  simp only [Tlv.cells] at r0 r1 r2 r3 g0 g1 g2 g3
  clear hs0 hs1 hs2 hs3
  rw [iter_eq, hst, hev]
  cases s0
  case false => simp [loopAt, findLoop, Tryz.f12, htt, hlin, hreg, reg12, hcall, hcallP, hlv_8, hlv_100008, hlv_17, hlv_100017, hlv_200020, hlv_250020, r0, g0]
  simp [loopAt, findLoop, Tryz.f12, htt, hlin, hreg, reg12, hcall, hcallP, hlv_8, hlv_100008, hlv_17, hlv_100017, hlv_200020, hlv_250020, r0, g0]
  rw [iter_eq, hev]
  cases s1
  case false => simp [loopAt, findLoop, Tryz.f12, htt, hlin, hreg, reg12, hcall, hcallP, hlv_8, hlv_100008, hlv_17, hlv_100017, hlv_200020, hlv_250020, r1, g1]
  simp [loopAt, findLoop, Tryz.f12, htt, hlin, hreg, reg12, hcall, hcallP, hlv_8, hlv_100008, hlv_17, hlv_100017, hlv_200020, hlv_250020, r1, g1]
  rw [iter_eq, hev]
  cases s2
  case false => simp [loopAt, findLoop, Tryz.f12, htt, hlin, hreg, reg12, hcall, hcallP, hlv_8, hlv_100008, hlv_17, hlv_100017, hlv_200020, hlv_250020, r2, g2]
  simp [loopAt, findLoop, Tryz.f12, htt, hlin, hreg, reg12, hcall, hcallP, hlv_8, hlv_100008, hlv_17, hlv_100017, hlv_200020, hlv_250020, r2, g2]
  rw [iter_eq, hev]
  cases s3
  case false => simp [loopAt, findLoop, Tryz.f12, htt, hlin, hreg, reg12, hcall, hcallP, hlv_8, hlv_100008, hlv_17, hlv_100017, hlv_200020, hlv_250020, r3, g3]
  simp [loopAt, findLoop, Tryz.f12, htt, hlin, hreg, reg12, hcall, hcallP, hlv_8, hlv_100008, hlv_17, hlv_100017, hlv_200020, hlv_250020, r3, g3]
  rw [iter_eq, hev]
  simp [loopAt, findLoop, Tryz.f12, htt, hlin, hreg, reg12, hcall, hcallP, hlv_8, hlv_100008, hlv_17, hlv_100017, hlv_200020, hlv_250020, r3, g3]
def threeP : Blk := .cells false [.ptr 2 4, .ptr 2 5, .ptr 2 6]
def Tlv.isBytes (n : Nat) : Tlv → Bool
  | .mk x1 x2 x3 _ x5 _ _ => decide (x1 = 0 ∧ x2 = 4 ∧ x3 = false ∧ x5.length = n)
def Tlv.bodyD : Tlv → D
  | .mk _ _ _ x4 x5 _ _ => .nums .u8 x4 x5
def Tlv.body : Tlv → List Int
  | .mk _ _ _ _ x5 _ _ => x5
def Tlv.bnil : Tlv → Bool
  | .mk _ _ _ x4 _ _ _ => x4
theorem t_IsPlain' (F n : Nat) (x : Tlv) (k : Int) : ∃ b, callN (envG G) F (n+1) 30 [.d (.agg x.cells), .d (.int .i64 k)] = some ⟨[.d (.bool b)], []⟩ ∧ (k = 4 → ∀ n, (b && decide (x.body.length = n)) = x.isBytes n) := by
  obtain ⟨x1, x2, x3, x4, x5, x6, x7⟩ := x
  refine ⟨_, t_IsPlain (G := G) F n x1 x2 x3 x4 x5 x6 x7 k, fun hk n => ?_⟩
  subst hk
  simp only [Tlv.isBytes, Tlv.body]
  by_cases hl : x5.length = n <;> by_cases h1 : x1 = 0 <;> by_cases h2 : x2 = 4 <;> by_cases h3 : x3 = false <;> simp [h1, h2, h3, hl]
theorem loop_dec2 {m : Nat} {C : Ctx} {F : Nat} (hC : (envG G).ctx 12 (callN (envG G) F (m)) (callP (envG G) F (m)) = C) {c : Code} (hc : loopAt 17 Tryz.f12 = some c) (p0 p1 p2 p3 : D) (x6 : Bool) (x7 : List Tlv) (k4 k5 k6 : Tlv) (v0 v1 v2 v3 : Int) (b4 b5 b6 : Bool)
    (h4 : x7[4]? = some k4) (h5 : x7[5]? = some k5) (h6 : x7[6]? = some k6)
    (g4 : callN (envG G) F m 30 [.d (.agg k4.cells), .d (.int .i64 4)] = some ⟨[.d (.bool b4)], []⟩)
    (g5 : callN (envG G) F m 30 [.d (.agg k5.cells), .d (.int .i64 4)] = some ⟨[.d (.bool b5)], []⟩)
    (g6 : callN (envG G) F m 30 [.d (.agg k6.cells), .d (.int .i64 4)] = some ⟨[.d (.bool b6)], []⟩) (k : Nat) (st : St)
    (hst : st.trim 5 [2, 4, 6, 11, 61, 62, 63] = ⟨[(2, .ptr 0 0), (4, .ptr 1 0), (6, .ptr 2 0), (11, .d (.nums .i64 false [12, 145, 48])), (61, .mu 4 0 3 3 1), (62, .d (.int .i64 3)), (63, .d (.int .i64 0))],
      [some zeroM, some (tlvK p0 p1 p2 p3 x6 x7), some (.cells false [.d (.int .i64 v0), .d (.int .i64 v1), .d (.int .i64 v2), .d (.int .i64 v3), .d (.nums .u8 true []), .d (.nums .u8 true []), .d (.nums .u8 true [])]), some fourP, some threeP], [.t 11]⟩) :
    if (b4 && decide (k4.body.length = 12)) && (b5 && decide (k5.body.length = 145)) && (b6 && decide (k6.body.length = 48)) then
      iter (ev C F c) 5 [2, 4, 6, 11, 61, 62, 63] [2, 3, 6] (k + 4) st = some (.exit 2, ⟨[(2, .ptr 0 0), (6, .ptr 2 0)], [some zeroM, some (tlvK p0 p1 p2 p3 x6 x7), some (.cells false [.d (.int .i64 v0), .d (.int .i64 v1), .d (.int .i64 v2), .d (.int .i64 v3), .d k4.bodyD, .d k5.bodyD, .d k6.bodyD]), some fourP, some threeP], []⟩)
    else ∃ st', iter (ev C F c) 5 [2, 4, 6, 11, 61, 62, 63] [2, 3, 6] (k + 4) st = some (.ret, st') ∧ finish C Tryz.f12.results.toList (some (.ret, st')) = some ⟨[.d zeroMD, .d (err 7)], []⟩ := by
  have htt : C.tt = (envG G).tt := by rw [← hC]; rfl
  have hlin : C.lin = [] := by rw [← hC]; rfl
  have hreg : C.reg = reg12 := by rw [← hC]; rfl
  have hcall : C.call = callN (envG G) F (m) := by rw [← hC]; rfl
  have hcallP : C.callP = callP (envG G) F (m) := by rw [← hC]; rfl
  have hlv_8 : C.live 8 = [2, 4, 6, 33, 34, 35] := by rw [← hC]; rfl
  have hlv_100008 : C.live 100008 = [2, 3, 4, 6] := by rw [← hC]; rfl
  have hlv_17 : C.live 17 = [2, 4, 6, 11, 61, 62, 63] := by rw [← hC]; rfl
  have hlv_100017 : C.live 100017 = [2, 3, 6] := by rw [← hC]; rfl
  have hlv_200020 : C.live 200020 = [] := by rw [← hC]; rfl
  have hlv_250020 : C.live 250020 = [] := by rw [← hC]; rfl
  have hev : ∀ st, ev C F c st = ev C F ((loopAt 17 Tryz.f12).getD .skip) st := fun st => by rw [hc]; rfl
  have r4 : (Tlv.cellsL x7)[4]? = some k4.cells := by rw [cellsL_map, List.getElem?_map, h4]; rfl
  have r5 : (Tlv.cellsL x7)[5]? = some k5.cells := by rw [cellsL_map, List.getElem?_map, h5]; rfl
  have r6 : (Tlv.cellsL x7)[6]? = some k6.cells := by rw [cellsL_map, List.getElem?_map, h6]; rfl
  clear h4 h5 h6
  unfold zeroM fourP threeP tlvK at *
  unfold zeroMD err
  obtain ⟨a1, a2, a3, a4, a5, a6, a7⟩ := k4
  obtain ⟨e1, e2, e3, e4, e5, e6, e7⟩ := k5
  obtain ⟨d1, d2, d3, d4, d5, d6, d7⟩ := k6
  simp only [Tlv.cells] at r4 r5 r6 g4 g5 g6
  simp only [Tlv.body, Tlv.bodyD]
  rw [iter_eq, hst, hev]
  cases b4
  case false => simp [loopAt, findLoop, Tryz.f12, htt, hlin, hreg, reg12, hcall, hcallP, hlv_8, hlv_100008, hlv_17, hlv_100017, hlv_200020, hlv_250020, r4, g4]
  by_cases l4 : a5.length = 12
  case neg =>
    have l4' : ¬ (a5.length : Int) = 12 := by omega
    simp [loopAt, findLoop, Tryz.f12, htt, hlin, hreg, reg12, hcall, hcallP, hlv_8, hlv_100008, hlv_17, hlv_100017, hlv_200020, hlv_250020, r4, g4, l4, l4']
  simp [loopAt, findLoop, Tryz.f12, htt, hlin, hreg, reg12, hcall, hcallP, hlv_8, hlv_100008, hlv_17, hlv_100017, hlv_200020, hlv_250020, r4, g4, l4]
  rw [iter_eq, hev]
  cases b5
  case false => simp [loopAt, findLoop, Tryz.f12, htt, hlin, hreg, reg12, hcall, hcallP, hlv_8, hlv_100008, hlv_17, hlv_100017, hlv_200020, hlv_250020, r5, g5]
  by_cases l5 : e5.length = 145
  case neg =>
    have l5' : ¬ (e5.length : Int) = 145 := by omega
    simp [loopAt, findLoop, Tryz.f12, htt, hlin, hreg, reg12, hcall, hcallP, hlv_8, hlv_100008, hlv_17, hlv_100017, hlv_200020, hlv_250020, r5, g5, l5, l5']
  simp [loopAt, findLoop, Tryz.f12, htt, hlin, hreg, reg12, hcall, hcallP, hlv_8, hlv_100008, hlv_17, hlv_100017, hlv_200020, hlv_250020, r5, g5, l5]
  rw [iter_eq, hev]
  cases b6
  case false => simp [loopAt, findLoop, Tryz.f12, htt, hlin, hreg, reg12, hcall, hcallP, hlv_8, hlv_100008, hlv_17, hlv_100017, hlv_200020, hlv_250020, r6, g6]
  by_cases l6 : d5.length = 48
  case neg =>
    have l6' : ¬ (d5.length : Int) = 48 := by omega
    simp [loopAt, findLoop, Tryz.f12, htt, hlin, hreg, reg12, hcall, hcallP, hlv_8, hlv_100008, hlv_17, hlv_100017, hlv_200020, hlv_250020, r6, g6, l6, l6']
  simp [loopAt, findLoop, Tryz.f12, htt, hlin, hreg, reg12, hcall, hcallP, hlv_8, hlv_100008, hlv_17, hlv_100017, hlv_200020, hlv_250020, r6, g6, l6]
  rw [iter_eq, hev]
  simp [loopAt, findLoop, Tryz.f12, htt, hlin, hreg, reg12, hcall, hcallP, hlv_8, hlv_100008, hlv_17, hlv_100017, hlv_200020, hlv_250020, r6, g6]
end Go.Proofs.YtjmcgdhekjkjfaaGreatDoor
set_option linter.unusedSimpArgs false
set_option linter.unusedVariables false
namespace Go.Proofs.YtjmcgdhekjkjfaaGreatDoor
open Go Go.VM
variable {G : GE}
set_option maxRecDepth 100000
set_option maxHeartbeats 4000000
mutual
def Tlv.nilOk : Tlv → Prop
  | .mk _ _ _ bn b kn ks => (bn = true → b = []) ∧ (kn = true → ks = []) ∧ Tlv.nilOkL ks
def Tlv.nilOkL : List Tlv → Prop
  | [] => True
  | x :: l => x.nilOk ∧ Tlv.nilOkL l
end
theorem nilOk_mem {x : Tlv} : ∀ {l : List Tlv}, Tlv.nilOkL l → x ∈ l → x.nilOk
  | y :: l, hf, h => by
    simp only [Tlv.nilOkL] at hf
    rcases List.mem_cons.1 h with rfl | h
    · exact hf.1
    · exact nilOk_mem hf.2 h
theorem kidsB_nil {g : Nat → Nat → Res (Tlv × Nat)} (hg : ∀ i t x nx, g i t = .ok (x, nx) → x.nilOk) : ∀ (k fr to : Nat) (l : List Tlv), kidsB g k fr to = .ok l → Tlv.nilOkL l
  | 0, fr, to, l, h => by simp only [kidsB] at h; injection h with h; subst h; trivial
  | k + 1, fr, to, l, h => by
    simp only [kidsB] at h
    split at h
    · split at h
      · cases h
      · rename_i x nx h1
        split at h
        · cases h
        · rename_i l' h2
          injection h with h; subst h
          exact ⟨hg _ _ _ _ h1, kidsB_nil hg k _ _ _ h2⟩
    · injection h with h; subst h; trivial
theorem elemB_nil {b : List Int} : ∀ (d i stop : Nat) (x : Tlv) (nx : Nat), elemB b d i stop = .ok (x, nx) → x.nilOk
  | 0, i, stop, x, nx, h => by cases h
  | d + 1, i, stop, x, nx, h => by
    simp only [elemB] at h
    split at h
    · cases h
    split at h
    · cases h
    split at h
    · cases h
    split at h
    · split at h
      · cases h
      · rename_i l hl
        injection h with h; injection h with h1 h2; subst h1
        refine ⟨fun _ => rfl, fun h => ?_, kidsB_nil (fun i t x nx h => elemB_nil d i t x nx h) _ _ _ _ hl⟩
        cases l with
        | nil => rfl
        | cons a l => cases h
    · injection h with h; injection h with h1 h2; subst h1
      exact ⟨fun h => (by cases h), fun _ => rfl, trivial⟩
theorem parseB_nil {b : List Int} {x : Tlv} (h : parseB b = .ok x) : x.nilOk := by
  unfold parseB at h
  split at h
  · cases h
  split at h
  · cases h
  rename_i he
  split at h
  · cases h
  · injection h with h; subst h; exact elemB_nil _ _ _ _ _ he
def Tlv.kids : Tlv → List Tlv
  | .mk _ _ _ _ _ _ ks => ks
theorem weight_mem {x : Tlv} {l : List Tlv} (h : x ∈ l) : x.weight ≤ Tlv.weightL l := weightL_mem h
theorem plainOk_of {x : Tlv} {W : Nat} (h1 : x.nilOk) (h2 : x.bytesOk) (h3 : x.weight ≤ W) (hW : W ≤ 1048576) : x.plainOk := by
  obtain ⟨x1, x2, x3, x4, x5, x6, x7⟩ := x
  simp only [Tlv.weight] at h3
  exact ⟨h1.1, by omega, h2.1⟩
def Tlv.man : Tlv → Option D
  | .mk x1 x2 x3 _ _ _ [k0, k1, k2, k3, k4, k5, k6] =>
    if x1 = 0 ∧ x2 = 16 ∧ x3 = true ∧ (k0.isSmall && k1.isSmall && k2.isSmall && k3.isSmall) = true ∧ (k4.isBytes 12 && k5.isBytes 145 && k6.isBytes 48) = true then
      some (.agg [.int .i64 k0.valS, .int .i64 k1.valS, .int .i64 k2.valS, .int .i64 k3.valS, k4.bodyD, k5.bodyD, k6.bodyD]) else none
  | _ => none
def decodeV : Res Tlv → List V
  | .bad c p => [.d zeroMD, .d (atD c p)]
  | .ok x => match x.man with
    | some d => [.d d, .d .nilifc]
    | none => [.d zeroMD, .d (err 7)]
theorem seven_of {l : List Tlv} (h : l.length = 7) : ∃ k0 k1 k2 k3 k4 k5 k6, l = [k0, k1, k2, k3, k4, k5, k6] := by
  match l, h with
  | [k0, k1, k2, k3, k4, k5, k6], _ => exact ⟨k0, k1, k2, k3, k4, k5, k6, rfl⟩
theorem man_none {x1 x2 : Int} {x3 x4 x6 : Bool} {x5 : List Int} {x7 : List Tlv} (h : ¬ (x1 = 0 ∧ x2 = 16 ∧ x3 = true ∧ x7.length = 7)) : Tlv.man (.mk x1 x2 x3 x4 x5 x6 x7) = none := by
  unfold Tlv.man
  split
  · rename_i h1
    injection h1 with a1 a2 a3 a4 a5 a6 a7
    subst a7
    rw [if_neg (fun h2 => h ⟨by rw [a1]; exact h2.1, by rw [a2]; exact h2.2.1, by rw [a3]; exact h2.2.2.1, rfl⟩)]
  · rfl
theorem t_Decode (F : Nat) (hF : 1048580 < F) (n : Nat) (b : List Int) (nl : Bool) (hnl : nl = true → b = []) (hb : ∀ c ∈ b, 0 ≤ c ∧ c < 256) :
    callN (envG G) F (n + 30) 12 [.d (.nums .u8 nl b)] = some ⟨decodeV (parseB b), []⟩ := by
  have hp : callN (envG G) F (n + 29) _ _ = _ := t_Parse (G := G) F hF (n + 9) b nl hnl hb
  have hl : ∀ x1 x2 x3 x4 x5 x6 x7 k, callN (envG G) F (n + 29) _ _ = _ := fun x1 x2 x3 x4 x5 x6 x7 k => t_IsList (G := G) F (n + 28) x1 x2 x3 x4 x5 x6 x7 k
  have hk : ∀ x, parseB b = .ok x → ∀ y ∈ x.kids, y.plainOk := fun x hx y hy => by
    have h := parseB_ok hb hx
    have h2 := parseB_nil hx
    obtain ⟨x1, x2, x3, x4, x5, x6, x7⟩ := x
    simp only [Tlv.kids] at hy
    have h3 := h.2.2.2.2.2
    simp only [Tlv.weight] at h3
    have h4 := weight_mem hy
    exact plainOk_of (W := 1048576) (nilOk_mem h2.2.2 hy) (bytesOk_mem h.2.2.2.2.1.2 hy) (by omega) (by omega)
  rw [callN_run (fn := Tryz.f12) rfl rfl rfl (by simp [Tryz.ntmps12])]
  generalize hC : (envG G).ctx 12 (callN (envG G) F (n+29)) (callP (envG G) F (n+29)) = C
  have htt : C.tt = (envG G).tt := by rw [← hC]; rfl
  have hlin : C.lin = [] := by rw [← hC]; rfl
  have hreg : C.reg = reg12 := by rw [← hC]; rfl
  have hcall : C.call = callN (envG G) F (n+29) := by rw [← hC]; rfl
  have hcallP : C.callP = callP (envG G) F (n+29) := by rw [← hC]; rfl
  have hlv_8 : C.live 8 = [2, 4, 6, 33, 34, 35] := by rw [← hC]; rfl
  have hlv_100008 : C.live 100008 = [2, 3, 4, 6] := by rw [← hC]; rfl
  have hlv_17 : C.live 17 = [2, 4, 6, 11, 61, 62, 63] := by rw [← hC]; rfl
  have hlv_100017 : C.live 100017 = [2, 3, 6] := by rw [← hC]; rfl
  have hlv_200020 : C.live 200020 = [] := by rw [← hC]; rfl
  have hlv_250020 : C.live 250020 = [] := by rw [← hC]; rfl
  generalize hpb : parseB b = r at *
  cases r with
  | bad c p =>
    clear hk
    simp only [parseV, zeroT, Tlv.cells, Tlv.cellsL] at hp
    simp only [decodeV]
    unfold zeroMD
    have hne : ∃ t x, atD c p = .ifc t x := by
      unfold atD; split
      · exact ⟨_, _, rfl⟩
      · exact ⟨_, _, rfl⟩
    obtain ⟨t, x, hne⟩ := hne
    rw [hne] at hp ⊢
    simp [htt, hlin, hreg, reg12, hcall, hcallP, hlv_8, hlv_100008, hlv_17, hlv_100017, hlv_200020, hlv_250020, hp]
  | ok x =>
    obtain ⟨x1, x2, x3, x4, x5, x6, x7⟩ := x
    have hk' := hk _ rfl
    simp only [Tlv.kids] at hk'
    clear hk
    simp only [parseV, Tlv.cells] at hp
    have hl' := hl x1 x2 x3 x4 x5 x6 x7 7
    by_cases h : x1 = 0 ∧ x2 = 16 ∧ x3 = true ∧ x7.length = 7
    case neg =>
      have h2 : ¬ (x1 = 0 ∧ x2 = 16 ∧ x3 = true ∧ ((7 : Int) < 0 ∨ (x7.length : Int) = 7)) := by
        rintro ⟨a, b, c, d⟩
        exact h ⟨a, b, c, by omega⟩
      rw [decide_eq_false h2] at hl'
      simp only [decodeV, man_none h]
      unfold zeroMD err
      simp [htt, hlin, hreg, reg12, hcall, hcallP, hlv_8, hlv_100008, hlv_17, hlv_100017, hlv_200020, hlv_250020, hp, hl']
    case pos =>
      obtain ⟨rfl, rfl, rfl, h7⟩ := h
      rw [decide_eq_true ⟨rfl, rfl, rfl, by omega⟩] at hl'
      obtain ⟨k0, k1, k2, k3, k4, k5, k6, hx7⟩ := seven_of h7
      obtain ⟨v0, g0, w0⟩ := t_SmallOf' (G := G) F (n + 25) (by omega) k0 (hk' k0 (by simp [hx7]))
      obtain ⟨v1, g1, w1⟩ := t_SmallOf' (G := G) F (n + 25) (by omega) k1 (hk' k1 (by simp [hx7]))
      obtain ⟨v2, g2, w2⟩ := t_SmallOf' (G := G) F (n + 25) (by omega) k2 (hk' k2 (by simp [hx7]))
      obtain ⟨v3, g3, w3⟩ := t_SmallOf' (G := G) F (n + 25) (by omega) k3 (hk' k3 (by simp [hx7]))
      obtain ⟨b4, g4, w4⟩ := t_IsPlain' (G := G) F (n + 28) k4 4
      obtain ⟨b5, g5, w5⟩ := t_IsPlain' (G := G) F (n + 28) k5 4
      obtain ⟨b6, g6, w6⟩ := t_IsPlain' (G := G) F (n + 28) k6 4
      have hL1 := fun st h => by
        have hq := loop_dec1 (G := G) hC rfl (.int .i64 0) (.int .i64 16) (.bool true) (.nums .u8 x4 x5) x6 x7 k0 k1 k2 k3 v0 v1 v2 v3 (by simp [hx7]) (by simp [hx7]) (by simp [hx7]) (by simp [hx7]) g0 g1 g2 g3 (F - 5) st h
        rw [show F - 5 + 5 = F by omega] at hq
        exact hq
      have hL2 := fun st h => by
        have hq := loop_dec2 (G := G) hC rfl (.int .i64 0) (.int .i64 16) (.bool true) (.nums .u8 x4 x5) x6 x7 k4 k5 k6 v0 v1 v2 v3 b4 b5 b6 (by simp [hx7]) (by simp [hx7]) (by simp [hx7]) g4 g5 g6 (F - 4) st h
        rw [show F - 4 + 4 = F by omega] at hq
        exact hq
      have hman : Tlv.man (.mk 0 16 true x4 x5 x6 x7) = if (k0.isSmall && k1.isSmall && k2.isSmall && k3.isSmall) = true ∧ ((b4 && decide (k4.body.length = 12)) && (b5 && decide (k5.body.length = 145)) && (b6 && decide (k6.body.length = 48))) = true then
          some (.agg [.int .i64 v0, .int .i64 v1, .int .i64 v2, .int .i64 v3, k4.bodyD, k5.bodyD, k6.bodyD]) else none := by
        rw [hx7]
        rw [w4 rfl, w5 rfl, w6 rfl]
        unfold Tlv.man
        by_cases hs : (k0.isSmall && k1.isSmall && k2.isSmall && k3.isSmall) = true
        · have hs' := hs
          simp only [Bool.and_eq_true] at hs'
          rw [w0 hs'.1.1.1, w1 hs'.1.1.2, w2 hs'.1.2, w3 hs'.2]
          simp [hs]
        · simp [hs]
      clear w0 w1 w2 w3 w4 w5 w6 hC hk' hx7
      unfold zeroM tlvK fourP at hL1
      unfold zeroM tlvK fourP threeP at hL2
      unfold zeroMD err at hL1 hL2
      simp only [decodeV]
      rw [hman]
      clear hman
      unfold zeroMD err
      generalize (k0.isSmall && k1.isSmall && k2.isSmall && k3.isSmall) = s at *
      generalize ((b4 && decide (k4.body.length = 12)) && (b5 && decide (k5.body.length = 145)) && (b6 && decide (k6.body.length = 48))) = u at *
      generalize k4.bodyD = d4 at *
      generalize k5.bodyD = d5 at *
      generalize k6.bodyD = d6 at *
      cases s with
      | false =>
        simp only [Bool.false_eq_true, if_false, false_and] at hL1 ⊢
        have hL := fun st h => Classical.choose_spec (hL1 st h)
        simp [Tryz.f12, htt, hlin, hreg, reg12, hcall, hcallP, hlv_8, hlv_100008, hlv_17, hlv_100017, hlv_200020, hlv_250020] at hL
        simp [htt, hlin, hreg, reg12, hcall, hcallP, hlv_8, hlv_100008, hlv_17, hlv_100017, hlv_200020, hlv_250020, hp, hl', ev_loop]
        rw [(hL _ (by simp)).1]
        simp [htt, hlin, hreg, reg12, hcall, hcallP, hlv_8, hlv_100008, hlv_17, hlv_100017, hlv_200020, hlv_250020]
        exact (hL _ (by simp)).2
      | true =>
        simp only [if_true, true_and] at hL1 ⊢
        simp [htt, hlin, hreg, reg12, hcall, hcallP, hlv_8, hlv_100008, hlv_17, hlv_100017, hlv_200020, hlv_250020, hp, hl', ev_loop]
        rw [hL1 _ (by simp)]
        cases u with
        | false =>
          simp only [Bool.false_eq_true, if_false] at hL2 ⊢
          have hL := fun st h => Classical.choose_spec (hL2 st h)
          simp [Tryz.f12, htt, hlin, hreg, reg12, hcall, hcallP, hlv_8, hlv_100008, hlv_17, hlv_100017, hlv_200020, hlv_250020] at hL
          simp [htt, hlin, hreg, reg12, hcall, hcallP, hlv_8, hlv_100008, hlv_17, hlv_100017, hlv_200020, hlv_250020, ev_loop]
          rw [(hL _ (by simp)).1]
          simp [htt, hlin, hreg, reg12, hcall, hcallP, hlv_8, hlv_100008, hlv_17, hlv_100017, hlv_200020, hlv_250020]
          exact (hL _ (by simp)).2
        | true =>
          simp only [if_true] at hL2 ⊢
          simp [htt, hlin, hreg, reg12, hcall, hcallP, hlv_8, hlv_100008, hlv_17, hlv_100017, hlv_200020, hlv_250020, ev_loop]
          rw [hL2 _ (by simp)]
          simp [htt, hlin, hreg, reg12, hcall, hcallP, hlv_8, hlv_100008, hlv_17, hlv_100017, hlv_200020, hlv_250020]
end Go.Proofs.YtjmcgdhekjkjfaaGreatDoor
