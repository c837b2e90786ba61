/- What der.spot and der's reader.length hand back. -/
import Derived.Test.YtjmcgdhekjkjfaaDoorSD
import Derived.Test.YtjmcgdhekjkjfaaDoorSE
import Derived.Test.YtjmcgdhekjkjfaaDoorVMU
import Derived.Test.YtjmcgdhekjkjfaaDoorVMR
set_option linter.unusedSimpArgs false
set_option linter.unusedVariables false
namespace Go.Proofs.YtjmcgdhekjkjfaaDoor
open Go Go.VM
variable {G : GE}
set_option maxRecDepth 100000
set_option maxHeartbeats 4000000
def spotD (c p : Int) : D := .ifc 105 (.fp [.int .i64 p, err c])
theorem t_spot (F n : Nat) (c p : Int) : callN (envG G) F (n+1) 57 [.d (.int .i64 p), .d (err c)] = some ⟨[.d (spotD c p)], []⟩ := by
  unfold spotD err
  rw [callN_run (fn := Tryd.f57) rfl rfl rfl (by simp [Tryd.ntmps57])]
  generalize hC : (envG G).ctx 57 (callN (envG G) F (n)) (callP (envG G) F (n)) = C
  have htt : C.tt = (envG G).tt := by rw [← hC]; rfl
  have hlin : C.lin = [] := by rw [← hC]; rfl
  have hreg : C.reg = reg57 := by rw [← hC]; rfl
  have hcall : C.call = callN (envG G) F (n) := by rw [← hC]; rfl
  have hcallP : C.callP = callP (envG G) F (n) := by rw [← hC]; rfl
  simp [htt, hlin, hreg, reg57, hcall, hcallP]
theorem byteAt_get {b : List Int} {i : Nat} (h : i < b.length) : b[i]? = some (byteAt b i) := by
  simp [byteAt, h]
theorem loop_len {m : Nat} {C : Ctx} {F : Nat} (hC : (envG G).ctx 96 (callN (envG G) F (m)) (callP (envG G) F (m)) = C) {c : Code} (hc : loopAt 12 Tryd.f96 = some c) (b us : List Int) (fr q : Nat) (hb : ∀ c ∈ b, 0 ≤ c ∧ c < 256) (hq : q ≤ 3) (hul : us.length = q) (hu : ∀ j, j < q → us[j]? = some (byteAt b (fr + j)))
    (nl : Bool) (p1 p2 p10 p11 : D) (B : Blk) (hB : oldB 1 (some B) = some B) :
    ∀ (u j k : Nat) (st : St), j + u = q → u < k →
      st.trim 1 [1, 2, 3, 9, 10, 11, 57, 58, 59] = ⟨[(1, .d p1), (2, .d p2), (3, .ptr 0 0), (9, .d (.int .i64 (beN b fr j))), (10, .d p10), (11, .d p11), (57, .d (.nums .u8 nl us)), (58, .d (.int .i64 q)), (59, .d (.int .i64 j))], [some B], []⟩ →
      iter (ev C F c) 1 [1, 2, 3, 9, 10, 11, 57, 58, 59] [1, 2, 3, 6, 7, 8, 9, 10, 11] k st = some (.exit 1, ⟨[(1, .d p1), (2, .d p2), (3, .ptr 0 0), (9, .d (.int .i64 (beN b fr q))), (10, .d p10), (11, .d p11)], [some B], []⟩) := by
  have htt : C.tt = (envG G).tt := by rw [← hC]; rfl
  have hlin : C.lin = [] := by rw [← hC]; rfl
  have hreg : C.reg = reg96 := by rw [← hC]; rfl
  have hcall : C.call = callN (envG G) F (m) := by rw [← hC]; rfl
  have hcallP : C.callP = callP (envG G) F (m) := by rw [← hC]; rfl
  have hlv_12 : C.live 12 = [1, 2, 3, 9, 10, 11, 57, 58, 59] := by rw [← hC]; rfl
  have hlv_100012 : C.live 100012 = [1, 2, 3, 6, 7, 8, 9, 10, 11] := by rw [← hC]; rfl
  have hev : ∀ st, ev C F c st = ev C F ((loopAt 12 Tryd.f96).getD .skip) st := fun st => by rw [hc]; rfl
  intro u
  induction u with
  | zero =>
    intro j k st hj hk hst
    obtain ⟨k, rfl⟩ : ∃ j, k = j + 1 := ⟨k - 1, by omega⟩
    have e0 : ¬ ((j : Int) < (q : Int)) := by omega
    have hjq : j = q := by omega
    subst hjq
    rw [iter_eq, hst, hev]
    simp [loopAt, findLoop, Tryd.f96, htt, hlin, hreg, reg96, hcall, hcallP, hlv_12, hlv_100012, e0]
  | succ u ih =>
    intro j k st hj hk hst
    obtain ⟨k, rfl⟩ : ∃ j, k = j + 1 := ⟨k - 1, by omega⟩
    have e0 : (j : Int) < (q : Int) := by omega
    have ra := hu j (by omega)
    have h1 := beN_ok hb fr j
    have h2 := byteAt_ok hb (fr + j)
    have hp : (256 : Int) ^ j ≤ 65536 := by
      have : j = 0 ∨ j = 1 ∨ j = 2 := by omega
      rcases this with rfl | rfl | rfl <;> decide
    have ho := or_byte (v := beN b fr j) (x := byteAt b (fr + j)) h1.1 (by omega) h2.1 h2.2
    have ih' := fun st h => ih (j + 1) k st (by omega) (by omega) h
    simp only [beN] at ih'
    rw [show 256 * beN b fr j + byteAt b (fr + j) = beN b fr j * 256 + byteAt b (fr + j) by omega] at ih'
    have e1 : (j : Int) + 1 ≤ 9223372036854775807 := by omega
    have e2 : (-9223372036854775808 : Int) ≤ (j : Int) + 1 := by omega
    have e3 : beN b fr j * 256 ≤ 9223372036854775807 := by omega
    have e4 : (-9223372036854775808 : Int) ≤ beN b fr j * 256 := by omega
    have e5 : byteAt b (fr + j) ≤ 9223372036854775807 := by omega
    have e6 : (-9223372036854775808 : Int) ≤ byteAt b (fr + j) := by omega
    rw [iter_eq, hst, hev]
    generalize beN b fr j = v at *
    generalize byteAt b (fr + j) = x at *
    simp [loopAt, findLoop, Tryd.f96, htt, hlin, hreg, reg96, hcall, hcallP, hlv_12, hlv_100012, e0, e1, e2, e3, e4, e5, e6, ra, ho]
    simp at ih'
    exact ih' _ (by simp [hB])
end Go.Proofs.YtjmcgdhekjkjfaaDoor
set_option linter.unusedSimpArgs false
set_option linter.unusedVariables false
namespace Go.Proofs.YtjmcgdhekjkjfaaDoor
open Go Go.VM
variable {G : GE}
set_option maxRecDepth 100000
set_option maxHeartbeats 4000000
def spanV : Res (Nat × Nat) → List V
  | .ok (f, t) => [.d (.int .i64 f), .d (.int .i64 t), .d .nilifc]
  | .bad c p => [.d (.int .i64 0), .d (.int .i64 0), .d (spotD c p)]
theorem t_dlength (F n : Nat) (hF : 4 < F) (b : List Int) (nl : Bool) (hb : ∀ c ∈ b, 0 ≤ c ∧ c < 256) (hlen : b.length ≤ 1048576) (i stop : Nat) (hs : stop ≤ b.length) (hi : i ≤ 1048577) :
    callN (envG G) F (n+2) 96 [.d (.agg [.nums .u8 nl b]), .d (.int .i64 i), .d (.int .i64 stop)] = some ⟨spanV (spanB b i stop), []⟩ := by
  have ks := fun c p => t_spot (G := G) F n c p
  have g0 := byteAt_ok hb i
  have g1 := byteAt_ok hb (i + 1)
  rw [callN_run (fn := Tryd.f96) rfl rfl rfl (by simp [Tryd.ntmps96])]
  generalize hC : (envG G).ctx 96 (callN (envG G) F (n+1)) (callP (envG G) F (n+1)) = C
  have htt : C.tt = (envG G).tt := by rw [← hC]; rfl
  have hlin : C.lin = [] := by rw [← hC]; rfl
  have hreg : C.reg = reg96 := by rw [← hC]; rfl
  have hcall : C.call = callN (envG G) F (n+1) := by rw [← hC]; rfl
  have hcallP : C.callP = callP (envG G) F (n+1) := by rw [← hC]; rfl
  have hlv_12 : C.live 12 = [1, 2, 3, 9, 10, 11, 57, 58, 59] := by rw [← hC]; rfl
  have hlv_100012 : C.live 100012 = [1, 2, 3, 6, 7, 8, 9, 10, 11] := by rw [← hC]; rfl
  have hL := fun us fr q hq hul hu nl p1 p2 p10 p11 B hB u j k st => loop_len (G := G) hC rfl b us fr q hb hq hul hu nl p1 p2 p10 p11 B hB u j k st
  clear hC
  unfold spotD err at ks
  have e1 : (i : Int) + 1 ≤ 9223372036854775807 := by omega
  have e2 : (-9223372036854775808 : Int) ≤ (i : Int) + 1 := by omega
  by_cases c1 : stop ≤ i
  · have hsp : spanB b i stop = .bad 6 i := by simp [spanB, lenB, c1]
    have f1 : (stop : Int) ≤ (i : Int) := by omega
    rw [hsp]
    simp [htt, hlin, hreg, reg96, hcall, hcallP, hlv_12, hlv_100012, ks, f1, spanV, spotD, err]
  · have f1 : ¬ (stop : Int) ≤ (i : Int) := by omega
    have r0 := byteAt_get (b := b) (i := i) (by omega)
    have e7 : byteAt b i ≤ 9223372036854775807 := by omega
    have e8 : (-9223372036854775808 : Int) ≤ byteAt b i := by omega
    by_cases c2 : byteAt b i < 128
    · have f2 : ¬ (byteAt b i = 128) := by omega
      have f3 : ¬ (131 < byteAt b i) := by omega
      have f4 : ¬ (128 < byteAt b i) := by omega
      by_cases c3 : stop < i + 1 + (byteAt b i).toNat
      · have hsp : spanB b i stop = .bad 6 i := by simp [spanB, lenB, c1, c2, c3]
        have f5 : (stop : Int) - ((i : Int) + 1) < byteAt b i := by omega
        have e3 : (stop : Int) - ((i : Int) + 1) ≤ 9223372036854775807 := by omega
        have e4 : (-9223372036854775808 : Int) ≤ (stop : Int) - ((i : Int) + 1) := by omega
        rw [hsp]
        generalize byteAt b i = v at *
        simp [htt, hlin, hreg, reg96, hcall, hcallP, hlv_12, hlv_100012, ks, f1, r0, e1, e2, e3, e4, e7, e8, f2, f3, f4, f5, spanV, spotD, err]
      · have hsp : spanB b i stop = .ok (i + 1, i + 1 + (byteAt b i).toNat) := by simp [spanB, lenB, c1, c2, c3]
        have f5 : ¬ (stop : Int) - ((i : Int) + 1) < byteAt b i := by omega
        have e3 : (stop : Int) - ((i : Int) + 1) ≤ 9223372036854775807 := by omega
        have e4 : (-9223372036854775808 : Int) ≤ (stop : Int) - ((i : Int) + 1) := by omega
        have e5 : (i : Int) + 1 + byteAt b i ≤ 9223372036854775807 := by omega
        have e6 : (-9223372036854775808 : Int) ≤ (i : Int) + 1 + byteAt b i := by omega
        have e9 : ((byteAt b i).toNat : Int) = byteAt b i := by omega
        rw [hsp]
        simp only [spanV, Int.natCast_add, e9]
        generalize byteAt b i = v at *
        simp [htt, hlin, hreg, reg96, hcall, hcallP, hlv_12, hlv_100012, ks, f1, r0, e1, e2, e3, e4, e5, e6, e7, e8, f2, f3, f4, f5, spanV, spotD, err]
    · by_cases c3 : byteAt b i = 128 ∨ 131 < byteAt b i
      · have hsp : spanB b i stop = .bad 7 i := by simp [spanB, lenB, c1, c2, c3]
        rw [hsp]
        generalize byteAt b i = v at *
        by_cases f2 : v = 128
        · subst f2
          simp [htt, hlin, hreg, reg96, hcall, hcallP, hlv_12, hlv_100012, ks, f1, r0, e1, e2, e7, e8, spanV, spotD, err]
        · have f3 : 131 < v := by omega
          simp [htt, hlin, hreg, reg96, hcall, hcallP, hlv_12, hlv_100012, ks, f1, r0, e1, e2, e7, e8, f2, f3, spanV, spotD, err]
      · obtain ⟨q, hq0, hq3, hqv⟩ : ∃ q : Nat, 1 ≤ q ∧ q ≤ 3 ∧ byteAt b i = 128 + q := ⟨(byteAt b i - 128).toNat, by omega, by omega, by omega⟩
        have hq : (byteAt b i - 128).toNat = q := by omega
        have f2 : ¬ (128 + (q : Int) = 128) := by omega
        have f3 : ¬ (131 < 128 + (q : Int)) := by omega
        have f4 : 128 < 128 + (q : Int) := by omega
        have f6 : 128 + (q : Int) - 128 = q := by omega
        have e3 : (stop : Int) - ((i : Int) + 1) ≤ 9223372036854775807 := by omega
        have e4 : (-9223372036854775808 : Int) ≤ (stop : Int) - ((i : Int) + 1) := by omega
        have e5 : 128 + (q : Int) ≤ 9223372036854775807 := by omega
        have e6 : (-9223372036854775808 : Int) ≤ 128 + (q : Int) := by omega
        have e9 : (q : Int) ≤ 9223372036854775807 := by omega
        have e10 : (-9223372036854775808 : Int) ≤ (q : Int) := by omega
        by_cases c4 : stop < i + 1 + q
        · have hsp : spanB b i stop = .bad 6 i := by simp [spanB, lenB, c1, c2, c3, hq, c4]
          have f5 : (stop : Int) - ((i : Int) + 1) < q := by omega
          rw [hsp]
          rw [hqv] at r0
          simp [htt, hlin, hreg, reg96, hcall, hcallP, hlv_12, hlv_100012, ks, f1, r0, e1, e2, e3, e4, e5, e6, e9, e10, f2, f3, f4, f5, f6, spanV, spotD, err]
        · have f5 : ¬ (stop : Int) - ((i : Int) + 1) < q := by omega
          have r1 := byteAt_get (b := b) (i := i + 1) (by omega)
          have hv := beN_ok hb (i + 1) q
          have hv2 : beN b (i + 1) q < 16777216 := by
            have : q = 1 ∨ q = 2 ∨ q = 3 := by omega
            rcases this with rfl | rfl | rfl <;> exact Int.lt_of_lt_of_le hv.2 (by decide)
          have e11 : (i : Int) + 1 + q ≤ 9223372036854775807 := by omega
          have e12 : (-9223372036854775808 : Int) ≤ (i : Int) + 1 + q := by omega
          have f7 : (i : Int) + 1 ≤ (i : Int) + 1 + q := by omega
          have f8 : (i : Int) + 1 + q ≤ b.length := by omega
          have f9 : (0 : Int) ≤ (i : Int) + 1 := by omega
          have n1 : ((i : Int) + 1).toNat = i + 1 := by omega
          have n2 : ((i : Int) + 1 + q).toNat = i + 1 + q := by omega
          have hL1 := fun st h => hL ((b.take (i + 1 + q)).drop (i + 1)) (i + 1) q hq3 (by simp; omega) (fun j hj => by
            rw [List.getElem?_drop, List.getElem?_take, if_pos (by omega)]; exact byteAt_get (by omega)) nl (.int .i64 i) (.int .i64 stop) (.int .i64 ((i : Int) + 1)) (.int .i64 q) (.cells false [.d (.nums .u8 nl b)]) (by simp) q 0 F st (by omega) (by omega) h
          have hll : ((b.take (i + 1 + q)).drop (i + 1)).length = q := by simp; omega
          have spc : spanB b i stop = if byteAt b (i + 1) = 0 ∨ beN b (i + 1) q < 128 then .bad 7 i else if stop < i + 1 + q + (beN b (i + 1) q).toNat then .bad 6 i else .ok (i + 1 + q, i + 1 + q + (beN b (i + 1) q).toNat) := by
            simp only [spanB, lenB, if_neg c1, if_neg c2, if_neg c3, hq, if_neg c4]
            split
            · rename_i h; split at h
              · rename_i h2; rw [if_pos h2]; exact h.symm
              · cases h
            · rename_i h; split at h
              · cases h
              · rename_i h2; rw [if_neg h2]; injection h with h; injection h with h3 h4; subst h3; subst h4; rfl
          rw [spc]
          rw [hqv] at r0
          clear spc hqv hq c2 c3 e7 e8 g0
          simp only [beN] at hL1
          simp at hL1
          generalize beN b (i + 1) q = v at *
          generalize byteAt b (i + 1) = x at *
          generalize hus : (b.take (i + 1 + q)).drop (i + 1) = us at *
          have e13 : v ≤ 9223372036854775807 := by omega
          have e14 : (-9223372036854775808 : Int) ≤ v := by omega
          have e15 : (stop : Int) - ((i : Int) + 1 + q) ≤ 9223372036854775807 := by omega
          have e16 : (-9223372036854775808 : Int) ≤ (stop : Int) - ((i : Int) + 1 + q) := by omega
          have e17 : (i : Int) + 1 + q + v ≤ 9223372036854775807 := by omega
          have e18 : (-9223372036854775808 : Int) ≤ (i : Int) + 1 + q + v := by omega
          simp [htt, hlin, hreg, reg96, hcall, hcallP, hlv_12, hlv_100012, ks, f1, r0, r1, e1, e2, e3, e4, e5, e6, e9, e10, e11, e12, f2, f3, f4, f5, f6, f7, f8, f9, n1, n2, hus, hll, ev_loop]
          rw [hL1 _ (by simp)]
          by_cases c5 : x = 0
          · simp [htt, hlin, hreg, reg96, hcall, hcallP, hlv_12, hlv_100012, ks, r1, n1, f9, c5, spanV, spotD, err]
          · by_cases c6 : v < 128
            · simp [htt, hlin, hreg, reg96, hcall, hcallP, hlv_12, hlv_100012, ks, r1, n1, f9, c5, c6, spanV, spotD, err]
            · by_cases c7 : stop < i + 1 + q + v.toNat
              · have f10 : (stop : Int) - ((i : Int) + 1 + q) < v := by omega
                simp [htt, hlin, hreg, reg96, hcall, hcallP, hlv_12, hlv_100012, ks, r1, n1, f9, c5, c6, c7, f10, e11, e12, e15, e16, spanV, spotD, err]
              · have f10 : ¬ (stop : Int) - ((i : Int) + 1 + q) < v := by omega
                have e19 : (v.toNat : Int) = v := by omega
                simp [htt, hlin, hreg, reg96, hcall, hcallP, hlv_12, hlv_100012, ks, r1, n1, f9, c5, c6, c7, f10, e11, e12, e15, e16, e17, e18, e19, spanV, spotD, err]
end Go.Proofs.YtjmcgdhekjkjfaaDoor
set_option linter.unusedSimpArgs false
set_option linter.unusedVariables false
namespace Go.Proofs.YtjmcgdhekjkjfaaDoor
open Go Go.VM
variable {G : GE}
set_option maxRecDepth 100000
set_option maxHeartbeats 4000000
theorem t_clone (F n : Nat) (xs : List Int) (h : xs.length ≤ 140737488355328) : callN (envG G) F (n+1) 71 [.d (.nums .u8 false xs)] = some ⟨[.d (.nums .u8 false xs)], [0]⟩ := by
  rw [callN_run (fn := Tryd.f71) rfl rfl rfl (by simp [Tryd.ntmps71])]
  generalize hC : (envG G).ctx 71 (callN (envG G) F (n)) (callP (envG G) F (n)) = C
  have htt : C.tt = (envG G).tt := by rw [← hC]; rfl
  have hlin : C.lin = [7, 2, 5] := by rw [← hC]; rfl
  have hreg : C.reg = reg71 := by rw [← hC]; rfl
  have hcall : C.call = callN (envG G) F (n) := by rw [← hC]; rfl
  have hcallP : C.callP = callP (envG G) F (n) := by rw [← hC]; rfl
  simp [htt, hlin, hreg, reg71, hcall, hcallP, h]
theorem and31_aux : ∀ x : Fin 256, andI .u8 (x.val : Int) 31 = (x.val : Int) % 32 := by decide +kernel
theorem and32_aux : ∀ x : Fin 256, decide (andI .u8 (x.val : Int) 32 = 0) = decide (¬ (x.val : Int) / 32 % 2 = 1) := by decide +kernel
theorem and31 {x : Int} (h : 0 ≤ x ∧ x < 256) : andI .u8 x 31 = x % 32 := by
  obtain ⟨n, rfl⟩ := Int.eq_ofNat_of_zero_le h.1
  exact and31_aux ⟨n, by omega⟩
theorem and32 {x : Int} (h : 0 ≤ x ∧ x < 256) : andI .u8 x 32 = 0 ↔ ¬ x / 32 % 2 = 1 := by
  obtain ⟨n, rfl⟩ := Int.eq_ofNat_of_zero_le h.1
  exact decide_eq_decide.1 (and32_aux ⟨n, by omega⟩)
def zeroT : Tlv := .mk 0 0 false true [] true []
def elemV : Res (Tlv × Nat) → List V
  | .ok (x, nx) => [.d (.agg x.cells), .d (.int .i64 nx), .d .nilifc]
  | .bad c p => [.d (.agg zeroT.cells), .d (.int .i64 0), .d (spotD c p)]
theorem cellsL_snoc (l : List Tlv) (x : Tlv) : Tlv.cellsL l ++ [x.cells] = Tlv.cellsL (l ++ [x]) := by simp [cellsL_map]
theorem loop_elem {m : Nat} {C : Ctx} {F : Nat} (hC : (envG G).ctx 56 (callN (envG G) F (m)) (callP (envG G) F (m)) = C) {c : Code} (hc : loopAt 14 Tryd.f56 = some c) (b : List Int) (nl : Bool) (d to : Nat) (hd : d ≤ 15) (hto : to ≤ 1048576) (g : Nat → Nat → Res (Tlv × Nat))
    (hg : ∀ fr, fr ≤ to → callN (envG G) F m 56 [.d (.agg [.nums .u8 nl b]), .d (.int .i64 fr), .d (.int .i64 to), .d (.int .i64 ((d : Int) + 1))] = some ⟨elemV (g fr to), []⟩)
    (hgo : ∀ fr x nx, g fr to = .ok (x, nx) → fr < nx ∧ nx ≤ to) (p0 p1 p2 p3 : D) :
    ∀ (u fr k : Nat) (acc : List Tlv) (st : St), to - fr ≤ u → u < k → fr ≤ to → acc.length + to ≤ 2097152 + fr →
      st.trim 25 [3, 4, 8, 11, 12, 13] = ⟨[(3, .d (.int .i64 d)), (4, .ptr 0 0), (8, .ptr 1 0), (11, .ptr 24 0), (12, .d (.int .i64 fr)), (13, .d (.int .i64 to))],
        [some (.cells false [.d (.nums .u8 nl b)]), some (.cells false [.d (.int .i64 0), .d (.int .i64 0), .d (.bool false), .d (.nums .u8 true []), .d (.sl 5 true [])]),
         none, none, none, none, none, none, none, none, none, none, none, none, none, none, none, none, none, none, none, none, none, none, some (.cells false [.d p0, .d p1, .d p2, .d p3, .d (.sl 5 acc.isEmpty (Tlv.cellsL acc))])], [.b 24 4, .b 24 3, .b 1 4, .b 1 3]⟩ →
      match kidsB g u fr to with
      | .ok l => iter (ev C F c) 25 [3, 4, 8, 11, 12, 13] [8, 9, 10, 11, 13] k st = some (.exit 1, ⟨[(8, .ptr 1 0), (11, .ptr 24 0), (13, .d (.int .i64 to))],
          [some (.cells false [.d (.nums .u8 nl b)]), some (.cells false [.d (.int .i64 0), .d (.int .i64 0), .d (.bool false), .d (.nums .u8 true []), .d (.sl 5 true [])]),
           none, none, none, none, none, none, none, none, none, none, none, none, none, none, none, none, none, none, none, none, none, none, some (.cells false [.d p0, .d p1, .d p2, .d p3, .d (.sl 5 (acc ++ l).isEmpty (Tlv.cellsL (acc ++ l)))])], [.b 24 4, .b 24 3, .b 1 4, .b 1 3]⟩)
      | .bad c1 p => ∃ st', iter (ev C F c) 25 [3, 4, 8, 11, 12, 13] [8, 9, 10, 11, 13] k st = some (.ret, st') ∧ finish C Tryd.f56.results.toList (some (.ret, st')) = some ⟨elemV (.bad c1 p), []⟩ := by
  have htt : C.tt = (envG G).tt := by rw [← hC]; rfl
  have hlin : C.lin = [104, 75, 74, 17, 13, 14, 117, 108, 91, 79, 44, 32, 24, 10, 9, 110] := by rw [← hC]; rfl
  have hreg : C.reg = reg56 := by rw [← hC]; rfl
  have hcall : C.call = callN (envG G) F (m) := by rw [← hC]; rfl
  have hcallP : C.callP = callP (envG G) F (m) := by rw [← hC]; rfl
  have hlv_14 : C.live 14 = [3, 4, 8, 11, 12, 13] := by rw [← hC]; rfl
  have hlv_100014 : C.live 100014 = [8, 9, 10, 11, 13] := by rw [← hC]; rfl
  have hlv_200007 : C.live 200007 = [] := by rw [← hC]; rfl
  have hlv_250007 : C.live 250007 = [] := by rw [← hC]; rfl
  have hev : ∀ st, ev C F c st = ev C F ((loopAt 14 Tryd.f56).getD .skip) st := fun st => by rw [hc]; rfl
  intro u
  induction u with
  | zero =>
    intro fr k acc st hu hk hf ha hst
    obtain ⟨k, rfl⟩ : ∃ j, k = j + 1 := ⟨k - 1, by omega⟩
    have e0 : ¬ ((fr : Int) < (to : Int)) := by omega
    simp only [kidsB]
    rw [iter_eq, hst, hev]
    simp [loopAt, findLoop, Tryd.f56, htt, hlin, hreg, reg56, hcall, hcallP, hlv_14, hlv_100014, hlv_200007, hlv_250007, e0]
  | succ u ih =>
    intro fr k acc st hu hk hf ha hst
    obtain ⟨k, rfl⟩ : ∃ j, k = j + 1 := ⟨k - 1, by omega⟩
    simp only [kidsB]
    by_cases h0 : fr < to
    case neg =>
      have e0 : ¬ ((fr : Int) < (to : Int)) := by omega
      rw [if_neg h0]
      rw [iter_eq, hst, hev]
      simp [loopAt, findLoop, Tryd.f56, htt, hlin, hreg, reg56, hcall, hcallP, hlv_14, hlv_100014, hlv_200007, hlv_250007, e0]
    case pos =>
      have e0 : ((fr : Int) < (to : Int)) := by omega
      have e1 : (d : Int) + 1 ≤ 9223372036854775807 := by omega
      have e2 : (-9223372036854775808 : Int) ≤ (d : Int) + 1 := by omega
      rw [if_pos h0]
      have hc1 := hg fr hf
      cases hgr : g fr to with
      | bad c1 p =>
        rw [hgr] at hc1
        simp only [elemV] at hc1 ⊢
        simp only [spotD, err, zeroT, Tlv.cells, Tlv.cellsL] at hc1 ⊢
        rw [iter_eq, hst, hev]
        simp [loopAt, findLoop, Tryd.f56, htt, hlin, hreg, reg56, hcall, hcallP, hlv_14, hlv_100014, hlv_200007, hlv_250007, e0, e1, e2, hc1]
      | ok r =>
        obtain ⟨x, nx⟩ := r
        rw [hgr] at hc1
        simp only [elemV] at hc1
        obtain ⟨hlo, hhi⟩ := hgo fr x nx hgr
        have ih' := fun st h => ih nx k (acc ++ [x]) st (by omega) (by omega) hhi (by simp; omega) h
        have hsn := cellsL_snoc acc x
        obtain ⟨xc, xt, xm, xbn, xb, xkn, xks⟩ := x
        simp only [Tlv.cells] at hc1 hsn
        have hal : (acc.length + 1) * 72 ≤ 140737488355328 := by omega
        have hal2 : acc.length ≤ 140737488355327 := by omega
        have hl := cellsL_len acc
        cases hk2 : kidsB g u nx to with
        | ok l =>
          rw [hk2] at ih'
          simp only [hgr, hk2]
          rw [iter_eq, hst, hev]
          cases xkn <;> cases xbn <;>
          (simp [loopAt, findLoop, Tryd.f56, htt, hlin, hreg, reg56, hcall, hcallP, hlv_14, hlv_100014, hlv_200007, hlv_250007, e0, e1, e2, hc1, hl, hsn, hal, hal2]
           simp at ih'
           exact ih' _ (by simp))
        | bad c1 p =>
          rw [hk2] at ih'
          simp only [hgr, hk2]
          rw [iter_eq, hst, hev]
          cases xkn <;> cases xbn <;>
          (simp [loopAt, findLoop, Tryd.f56, htt, hlin, hreg, reg56, hcall, hcallP, hlv_14, hlv_100014, hlv_200007, hlv_250007, e0, e1, e2, hc1, hl, hsn, hal, hal2]
           simp [Tryd.f56, htt, hlin, hreg, reg56, hcall, hcallP, hlv_14, hlv_100014, hlv_200007, hlv_250007] at ih'
           exact ih' _ (by simp))
end Go.Proofs.YtjmcgdhekjkjfaaDoor
set_option linter.unusedSimpArgs false
set_option linter.unusedVariables false
namespace Go.Proofs.YtjmcgdhekjkjfaaDoor
open Go Go.VM
variable {G : GE}
set_option maxRecDepth 100000
set_option maxHeartbeats 4000000
def numB : List Int → Sum Int (List Int)
  | [] => .inl 7
  | x :: t => if 128 ≤ x then .inl 7 else if x = 0 then (match t with
      | [] => .inr []
      | y :: u => if y < 128 then .inl 7 else if 64 < (y :: u).length then .inl 2 else .inr (y :: u))
    else if 64 < (x :: t).length then .inl 2 else .inr (x :: t)
theorem t_Number (F n : Nat) (nl : Bool) (b : List Int) (hnl : nl = true → b = []) (hl : b.length ≤ 140737488355328) :
    callN (envG G) F (n+2) 118 [.d (.nums .u8 nl b)] = some (match numB b with
    | .inl e => ⟨[.d (.nums .u8 true []), .d (err e)], []⟩
    | .inr ys => ⟨[.d (.nums .u8 false ys), .d .nilifc], [0]⟩) := by
  have kc := fun xs h => t_clone (G := G) F n xs h
  rw [callN_run (fn := Tryd.f118) rfl rfl rfl (by simp [Tryd.ntmps118])]
  generalize hC : (envG G).ctx 118 (callN (envG G) F (n+1)) (callP (envG G) F (n+1)) = C
  have htt : C.tt = (envG G).tt := by rw [← hC]; rfl
  have hlin : C.lin = [] := by rw [← hC]; rfl
  have hreg : C.reg = reg118 := by rw [← hC]; rfl
  have hcall : C.call = callN (envG G) F (n+1) := by rw [← hC]; rfl
  have hcallP : C.callP = callP (envG G) F (n+1) := by rw [← hC]; rfl
  unfold err
  cases b with
  | nil => simp [htt, hlin, hreg, reg118, hcall, hcallP, numB]
  | cons x t =>
    have hnf : nl = false := by cases nl with | false => rfl | true => cases hnl rfl
    subst hnf
    simp only [List.length_cons] at hl
    have e0 : ¬ ((t.length : Int) + 1 = 0) := by omega
    have e9 : (0 : Int) < (t.length : Int) + 1 := by omega
    by_cases h1 : 128 ≤ x
    · simp [htt, hlin, hreg, reg118, hcall, hcallP, numB, h1, e0, e9]
    · by_cases h2 : x = 0
      · subst h2
        cases t with
        | nil => simp [htt, hlin, hreg, reg118, hcall, hcallP, numB, kc]
        | cons y u =>
          simp only [List.length_cons] at hl e0 e9
          have e1 : (1 : Int) < (u.length : Int) + 1 + 1 := by omega
          have e2 : ¬ ((u.length : Int) + 1 + 1 = 0) := by omega
          have e7 : (1 : Int) ≤ (u.length : Int) + 1 + 1 := by omega
          by_cases h3 : y < 128
          · simp [htt, hlin, hreg, reg118, hcall, hcallP, numB, e1, e2, e7, h3]
          · by_cases h4 : 64 < u.length + 1
            · have e5 : (64 : Int) < (u.length : Int) + 1 := by omega
              simp [htt, hlin, hreg, reg118, hcall, hcallP, numB, e1, e2, e7, h3, h4, e5, kc]
            · have e5 : ¬ (64 : Int) < (u.length : Int) + 1 := by omega
              have e6 : u.length + 1 ≤ 140737488355328 := by omega
              simp [htt, hlin, hreg, reg118, hcall, hcallP, numB, e1, e2, e7, h3, h4, e5, e6, kc]
      · by_cases h4 : 64 < t.length + 1
        · have e5 : (64 : Int) < (t.length : Int) + 1 := by omega
          by_cases e8 : (1 : Int) < (t.length : Int) + 1 <;> simp [htt, hlin, hreg, reg118, hcall, hcallP, numB, h1, h2, e0, h4, e5, e8, kc]
        · have e5 : ¬ (64 : Int) < (t.length : Int) + 1 := by omega
          have e6 : t.length + 1 ≤ 140737488355328 := by omega
          by_cases e8 : (1 : Int) < (t.length : Int) + 1 <;> simp [htt, hlin, hreg, reg118, hcall, hcallP, numB, h1, h2, e0, h4, e5, e6, e8, kc]
end Go.Proofs.YtjmcgdhekjkjfaaDoor
set_option linter.unusedSimpArgs false
set_option linter.unusedVariables false
namespace Go.Proofs.YtjmcgdhekjkjfaaDoor
open Go Go.VM
variable {G : GE}
set_option maxRecDepth 100000
set_option maxHeartbeats 4000000
def val (v : Int) : List Int → Int
  | [] => v
  | x :: t => val (v * 256 + x) t
theorem loop_small {m : Nat} {C : Ctx} {F : Nat} (hC : (envG G).ctx 109 (callN (envG G) F (m)) (callP (envG G) F (m)) = C) {c : Code} (hc : loopAt 8 Tryd.f109 = some c) (nl : Bool) (ys : List Int) (hy : ys.length ≤ 4) :
    ∀ (rest : List Int) (i k : Nat) (v : Int) (st : St), ys.drop i = rest → i ≤ ys.length → (∀ x ∈ rest, 0 ≤ x ∧ x < 256) → 0 ≤ v → v < 256 ^ i → rest.length < k →
      st.trim 0 [6, 21, 22, 23] = ⟨[(6, .d (.int .i64 v)), (21, .d (.nums .u8 nl ys)), (22, .d (.int .i64 ys.length)), (23, .d (.int .i64 i))], [], []⟩ →
      iter (ev C F c) 0 [6, 21, 22, 23] [2, 3, 6] k st = some (.exit 0, ⟨[(6, .d (.int .i64 (val v rest)))], [], []⟩) := by
  have htt : C.tt = (envG G).tt := by rw [← hC]; rfl
  have hlin : C.lin = [] := by rw [← hC]; rfl
  have hreg : C.reg = reg109 := by rw [← hC]; rfl
  have hcall : C.call = callN (envG G) F (m) := by rw [← hC]; rfl
  have hcallP : C.callP = callP (envG G) F (m) := by rw [← hC]; rfl
  have hlv_8 : C.live 8 = [6, 21, 22, 23] := by rw [← hC]; rfl
  have hlv_100008 : C.live 100008 = [2, 3, 6] := by rw [← hC]; rfl
  have hev : ∀ st, ev C F c st = ev C F ((loopAt 8 Tryd.f109).getD .skip) st := fun st => by rw [hc]; rfl
  intro rest
  induction rest with
  | nil =>
    intro i k v st hd hi hb h0 hv hk hst
    obtain ⟨k, rfl⟩ : ∃ j, k = j + 1 := ⟨k - 1, by simp at hk; omega⟩
    have h0 : ys.length ≤ i := by simpa using hd
    have e0 : ¬ ((i : Int) < (ys.length : Int)) := by omega
    rw [iter_eq, hst, hev]
    simp [loopAt, findLoop, Tryd.f109, htt, hlin, hreg, reg109, hcall, hcallP, hlv_8, hlv_100008, e0, val]
  | cons b t ih =>
    intro i k v st hd hi hb h0 hv hk hst
    obtain ⟨k, rfl⟩ : ∃ j, k = j + 1 := ⟨k - 1, by simp at hk; omega⟩
    simp at hk
    have h1 : i < ys.length := by
      rcases Nat.lt_or_ge i ys.length with h | h
      · exact h
      · rw [List.drop_eq_nil_of_le h] at hd; cases hd
    have hbx : ys[i]? = some b := by
      have : (ys.drop i)[0]? = some b := by rw [hd]; rfl
      simpa using this
    have ht : ys.drop (i + 1) = t := by
      rw [← List.drop_drop, hd]; rfl
    obtain ⟨b0, b1⟩ := hb b (List.mem_cons_self ..)
    have hv2 : v < 256 ^ 3 := by
      have : (256 : Int) ^ i ≤ 256 ^ 3 := by
        have h3 : i ≤ 3 := by omega
        have := Nat.pow_le_pow_right (n := 256) (by omega) h3
        exact_mod_cast this
      omega
    have hv3 : v * 256 + b < 256 ^ (i + 1) := by
      rw [Int.pow_succ]; omega
    have e0 : (i : Int) < (ys.length : Int) := by omega
    have e1 : (i : Int) + 1 ≤ 9223372036854775807 := by omega
    have e2 : (-9223372036854775808 : Int) ≤ (i : Int) + 1 := by omega
    have e3 : (-9223372036854775808 : Int) ≤ v * 256 := by omega
    have e4 : v * 256 ≤ (9223372036854775807 : Int) := by omega
    have e5 : (-9223372036854775808 : Int) ≤ b := by omega
    have e6 : b ≤ (9223372036854775807 : Int) := by omega
    have ho := or_byte (v := v) (x := b) h0 (by omega) b0 b1
    rw [iter_eq, hst, hev]
    have ih' := fun st h => ih (i + 1) k (v * 256 + b) st ht (by omega) (fun x hx => hb x (List.mem_cons_of_mem _ hx)) (by omega) hv3 hk h
    simp [loopAt, findLoop, Tryd.f109, htt, hlin, hreg, reg109, hcall, hcallP, hlv_8, hlv_100008, e0, hbx, e1, e2, e3, e4, e5, e6, ho, val]
    simp at ih'
    exact ih' _ (by simp)
def small (xs : List Int) : Sum Int Int :=
  match numB xs with
  | .inl e => .inl e
  | .inr ys => if 4 < ys.length then .inl 3 else if 2147483647 < val 0 ys then .inl 3 else .inr (val 0 ys)
theorem numB_mem {xs ys : List Int} (h : numB xs = .inr ys) : ∀ x ∈ ys, x ∈ xs := by
  unfold numB at h
  repeat' split at h
  all_goals first | (cases h; done) | skip
  all_goals (cases h; intro x hx; simp_all)
theorem numB_bytes {xs ys : List Int} (h : numB xs = .inr ys) (hb : ∀ x ∈ xs, 0 ≤ x ∧ x < 256) : ∀ x ∈ ys, 0 ≤ x ∧ x < 256 :=
  fun x hx => hb x (numB_mem h x hx)
theorem numB_err {xs : List Int} {e : Int} (h : numB xs = .inl e) : e = 7 ∨ e = 2 := by
  unfold numB at h
  repeat' split at h
  all_goals first | (cases h; simp; done) | (cases h; done)
theorem t_Small (F n : Nat) (hF : 100 ≤ F) (nl : Bool) (xs : List Int) (hn : nl = true → xs = []) (hx : xs.length ≤ 140737488355328) (hb : ∀ x ∈ xs, 0 ≤ x ∧ x < 256) : callN (envG G) F (n+3) 109 [.d (.nums .u8 nl xs)] = some (match small xs with
    | .inl e => ⟨[.d (.int .i64 0), .d (err e)], []⟩
    | .inr v => ⟨[.d (.int .i64 v), .d .nilifc], []⟩) := by
  rw [callN_run (fn := Tryd.f109) rfl rfl rfl (by simp [Tryd.ntmps109])]
  generalize hC : (envG G).ctx 109 (callN (envG G) F (n+2)) (callP (envG G) F (n+2)) = C
  have htt : C.tt = (envG G).tt := by rw [← hC]; rfl
  have hlin : C.lin = [] := by rw [← hC]; rfl
  have hreg : C.reg = reg109 := by rw [← hC]; rfl
  have hcall : C.call = callN (envG G) F (n+2) := by rw [← hC]; rfl
  have hcallP : C.callP = callP (envG G) F (n+2) := by rw [← hC]; rfl
  have hlv_8 : C.live 8 = [6, 21, 22, 23] := by rw [← hC]; rfl
  have hlv_100008 : C.live 100008 = [2, 3, 6] := by rw [← hC]; rfl
  have a1 := t_Number (G := G) F n nl xs hn hx
  unfold small
  cases hnum : numB xs with
  | inl e =>
    rw [hnum] at a1
    unfold err at a1
    simp [htt, hlin, hreg, reg109, hcall, hcallP, hlv_8, hlv_100008, a1, err]
  | inr ys =>
    rw [hnum] at a1
    by_cases h4 : 4 < ys.length
    · have e4 : (4 : Int) < (ys.length : Int) := by omega
      simp [htt, hlin, hreg, reg109, hcall, hcallP, hlv_8, hlv_100008, a1, err, h4, e4]
    · have e4 : ¬ (4 : Int) < (ys.length : Int) := by omega
      have hL := fun st h => loop_small (G := G) hC rfl false ys (by omega) ys 0 F 0 st rfl (by omega) (numB_bytes hnum hb) (by omega) (by simp) (by omega) h
      by_cases hv : 2147483647 < val 0 ys
      · simp [htt, hlin, hreg, reg109, hcall, hcallP, hlv_8, hlv_100008, a1, err, h4, e4, ev_loop, hL, hv]
      · simp [htt, hlin, hreg, reg109, hcall, hcallP, hlv_8, hlv_100008, a1, err, h4, e4, ev_loop, hL, hv]
end Go.Proofs.YtjmcgdhekjkjfaaDoor
set_option linter.unusedSimpArgs false
set_option linter.unusedVariables false
namespace Go.Proofs.YtjmcgdhekjkjfaaDoor
open Go Go.VM
set_option maxRecDepth 100000
set_option maxHeartbeats 4000000
def strip : List Int → List Int
  | [] => []
  | b :: t => if b = 0 then strip t else b :: t
theorem strip_len : ∀ xs : List Int, (strip xs).length ≤ xs.length
  | [] => by simp [strip]
  | b :: t => by
    unfold strip
    split
    · have := strip_len t; simp; omega
    · simp
def numberOf (xs : List Int) : Sum Int (List Int) :=
  if 64 < (strip xs).length then .inl 2 else match strip xs with
    | [] => .inr [0]
    | b :: t => if 128 ≤ b then .inr (0 :: b :: t) else .inr (b :: t)
def lead : List Int → Nat
  | [] => 0
  | b :: t => if b = 0 then lead t + 1 else 0
theorem drop_lead : ∀ xs : List Int, xs.drop (lead xs) = strip xs
  | [] => rfl
  | b :: t => by
    unfold lead strip
    split
    · simpa using drop_lead t
    · rfl
theorem lead_le : ∀ xs : List Int, lead xs ≤ xs.length
  | [] => by simp [lead]
  | b :: t => by
    unfold lead
    split
    · have := lead_le t; simp; omega
    · simp
def wrapB8 (x : Int) : Int := IntKind.u8.wrap x
theorem wrapB8_eq (x : Int) : wrapB8 x = x % 256 := by
  simp [wrapB8, IntKind.wrap, IntKind.signed, IntKind.bits]
def four (n : Int) : List Int := [n / 16777216 % 256, n / 65536 % 256, n / 256 % 256, n % 256]
def dig : Nat → Int → List Int → List Int
  | 0, _, acc => acc
  | f + 1, m, acc => if 0 < m then dig f (m / 256) (m % 256 :: acc) else acc
theorem dig_len : ∀ (f : Nat) (m : Int) (acc : List Int), (dig f m acc).length ≤ acc.length + f
  | 0, m, acc => by simp [dig]
  | f + 1, m, acc => by
    unfold dig
    split
    · have := dig_len f (m / 256) (m % 256 :: acc)
      simp at this; omega
    · omega
theorem strip_head : ∀ {xs t : List Int} {b : Int}, strip xs = b :: t → b ≠ 0
  | [], t, b, h => by simp [strip] at h
  | c :: xs, t, b, h => by
    unfold strip at h
    split at h
    · exact strip_head h
    · cases h; assumption
theorem val_strip : ∀ l : List Int, val 0 (strip l) = val 0 l
  | [] => rfl
  | b :: t => by
    unfold strip
    split
    · rename_i h
      subst h
      rw [val_strip t]
      simp [val]
    · rfl
theorem strip_strip : ∀ l : List Int, strip (strip l) = strip l
  | [] => rfl
  | b :: t => by
    by_cases h : b = 0
    · simp [strip, h, strip_strip t]
    · simp [strip, h]
theorem strip_four {m : Int} (h0 : 0 ≤ m) (h1 : m ≤ 2147483647) : strip (four m) = dig 4 m [] := by
  unfold four
  by_cases a : m = 0
  · subst a; simp [strip, dig]
  · have p0 : 0 < m := by omega
    by_cases b : m < 256
    · have e1 : m / 16777216 % 256 = 0 := by omega
      have e2 : m / 65536 % 256 = 0 := by omega
      have e3 : m / 256 % 256 = 0 := by omega
      have e4 : ¬ m % 256 = 0 := by omega
      have e5 : ¬ 0 < m / 256 := by omega
      simp [strip, dig, e1, e2, e3, e4, e5, p0]
    · have p1 : 0 < m / 256 := by omega
      by_cases c : m < 65536
      · have e1 : m / 16777216 % 256 = 0 := by omega
        have e2 : m / 65536 % 256 = 0 := by omega
        have e3 : ¬ m / 256 % 256 = 0 := by omega
        have e5 : ¬ 0 < m / 256 / 256 := by omega
        simp [strip, dig, e1, e2, e3, e5, p0, p1]
      · have p2 : 0 < m / 256 / 256 := by omega
        by_cases d : m < 16777216
        · have e1 : m / 16777216 % 256 = 0 := by omega
          have e2 : ¬ m / 65536 % 256 = 0 := by omega
          have e5 : ¬ 0 < m / 256 / 256 / 256 := by omega
          have e6 : m / 256 / 256 % 256 = m / 65536 % 256 := by omega
          simp [strip, dig, e1, e2, e5, e6, p0, p1, p2]
        · have p3 : 0 < m / 256 / 256 / 256 := by omega
          have e1 : ¬ m / 16777216 % 256 = 0 := by omega
          have e6 : m / 256 / 256 % 256 = m / 65536 % 256 := by omega
          have e7 : m / 256 / 256 / 256 % 256 = m / 16777216 % 256 := by omega
          simp [strip, dig, e1, e6, e7, p0, p1, p2, p3]
theorem val_four {m : Int} (h0 : 0 ≤ m) (h1 : m ≤ 2147483647) : val 0 (four m) = m := by
  simp only [four, val]; omega
theorem numberOf_dig {m : Int} (h0 : 0 ≤ m) (h1 : m ≤ 2147483647) : ∃ ys, numberOf (four m) = .inr ys ∧ numberOf (dig 4 m []) = .inr ys ∧ small ys = .inr m ∧ ys.length ≤ 5 := by
  have hs := strip_four h0 h1
  have hs2 : strip (dig 4 m []) = dig 4 m [] := by rw [← hs, strip_strip]
  have hv : val 0 (dig 4 m []) = m := by rw [← hs, val_strip, val_four h0 h1]
  have hl := dig_len 4 m []
  simp only [List.length_nil, Nat.zero_add] at hl
  unfold numberOf
  rw [hs, hs2]
  have h64 : ¬ 64 < (dig 4 m []).length := by omega
  simp only [h64, if_false]
  cases hd : dig 4 m [] with
  | nil =>
    rw [hd] at hv
    simp [val] at hv
    exact ⟨[0], rfl, rfl, by rw [← hv]; simp [small, numB, val], by simp⟩
  | cons b t =>
    rw [hd] at hv hs2 hl
    have hb0 := strip_head hs2
    simp at hl
    have h4 : ¬ 4 < t.length + 1 := by omega
    have h6 : ¬ 64 < t.length + 1 := by omega
    have hm : ¬ 2147483647 < m := by omega
    by_cases h2 : 128 ≤ b
    · have h3 : ¬ b < 128 := by omega
      exact ⟨0 :: b :: t, by simp [h2], by simp [h2], by simp [small, numB, h3, h6, h4, hv, hm], by simp; omega⟩
    · refine ⟨b :: t, by simp [h2], by simp [h2], ?_, by simp; omega⟩
      cases t with
      | nil => simp [small, numB, h2, hb0, hv, hm]
      | cons c t =>
        simp at h4 h6
        have h6' : ¬ 64 < t.length + 1 + 1 := by omega
        have h4' : ¬ 4 < t.length + 1 + 1 := by omega
        simp [small, numB, h2, hb0, h6', h4', hv, hm]
theorem numberOf_bytes {m : Int} {ys : List Int} (h : numberOf (four m) = .inr ys) : ∀ x ∈ ys, 0 ≤ x ∧ x < 256 := by
  have hf : ∀ x ∈ four m, 0 ≤ x ∧ x < 256 := by
    intro x hx
    simp [four] at hx
    rcases hx with h | h | h | h <;> omega
  have hs : ∀ x ∈ strip (four m), 0 ≤ x ∧ x < 256 := fun x hx => hf x (by rw [← drop_lead] at hx; exact List.mem_of_mem_drop hx)
  unfold numberOf at h
  split at h
  · cases h
  · split at h
    · cases h; intro x hx; simp at hx; omega
    · rename_i b t he
      rw [he] at hs
      split at h
      · cases h
        intro x hx
        rcases List.mem_cons.1 hx with rfl | hx
        · omega
        · exact hs x hx
      · cases h; exact hs
end Go.Proofs.YtjmcgdhekjkjfaaDoor
