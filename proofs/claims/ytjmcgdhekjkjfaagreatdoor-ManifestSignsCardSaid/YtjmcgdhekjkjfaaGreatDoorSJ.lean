/- ecdsa.Decode. -/
import Derived.Test.YtjmcgdhekjkjfaaGreatDoorSI
import Derived.Test.YtjmcgdhekjkjfaaGreatDoorSG
import Derived.Test.YtjmcgdhekjkjfaaGreatDoorSD
set_option linter.unusedSimpArgs false
set_option linter.unusedVariables false
namespace Go.Proofs.YtjmcgdhekjkjfaaGreatDoor
open Go Go.VM
variable {G : GE}
set_option maxRecDepth 100000
set_option maxHeartbeats 4000000
def sigD (r s : List Int) : D := .agg ((r ++ s).map (.int .u64))
def noSig : D := sigD [0, 0, 0, 0, 0, 0] [0, 0, 0, 0, 0, 0]
def Tlv.isNum : Tlv → Bool
  | .mk c t m _ b _ _ => decide (c = 0 ∧ t = 2 ∧ m = false) && numOk b
def rdOk (b : List Int) : Bool := decide (b.length ≤ 48) && isScalar (limbs b)
def sigOf : Tlv → Sum Int (List Int × List Int)
  | .mk c t m _ _ _ [k0, k1] => if c = 0 ∧ t = 16 ∧ m = true then (match k0.isNum && k1.isNum with
    | true => (match rdOk (numV k0.body) && rdOk (numV k1.body) with
      | true => .inr (limbs (numV k0.body), limbs (numV k1.body))
      | false => .inl 3)
    | false => .inl 7) else .inl 7
  | _ => .inl 7
def sigV : Res Tlv → List V
  | .bad c p => [.d noSig, .d (atD c p)]
  | .ok x => match sigOf x with
    | .inl e => [.d noSig, .d (err e)]
    | .inr (r, s) => [.d (sigD r s), .d .nilifc]
theorem numV_bytes {b : List Int} (hb : ∀ c ∈ b, 0 ≤ c ∧ c < 256) : ∀ c ∈ numV b, 0 ≤ c ∧ c < 256 := by
  intro c hc
  unfold numV numB at hc
  cases b with
  | nil => simp at hc
  | cons x t =>
    simp only at hc
    split at hc
    · simp at hc
    · rename_i ys hys
      split at hys
      · cases hys
      · split at hys
        · cases t with
          | nil => simp at hys; subst hys; simp at hc
          | cons y u =>
            simp only at hys
            split at hys
            · cases hys
            · split at hys
              · cases hys
              · injection hys with hys; subst hys; exact hb c (List.mem_cons_of_mem _ hc)
        · split at hys
          · cases hys
          · injection hys with hys; subst hys; exact hb c hc
theorem numV_len (b : List Int) : (numV b).length ≤ 64 := by
  unfold numV numB
  cases b with
  | nil => simp
  | cons x t =>
    simp only
    split
    · simp
    · rename_i ys hys
      split at hys
      · cases hys
      · split at hys
        · cases t with
          | nil => simp at hys; subst hys; simp
          | cons y u =>
            simp only at hys
            split at hys
            · cases hys
            · split at hys
              · cases hys
              · injection hys with hys; subst hys; omega
        · split at hys
          · cases hys
          · injection hys with hys; subst hys; omega
theorem two_of {α : Type} {l : List α} (h : l.length = 2) : ∃ a b, l = [a, b] := by
  rcases l with _ | ⟨a, _ | ⟨b, _ | ⟨c, t⟩⟩⟩ <;> simp at h
  exact ⟨a, b, rfl⟩
theorem limbs_six (b : List Int) : ∃ a0 a1 a2 a3 a4 a5, limbs b = [a0, a1, a2, a3, a4, a5] := six (L6_len _)
theorem t_eDecode (hK : SubK G) (hg : GroupG G) (F : Nat) (hF : 1048580 < F) (n : Nat) (b : List Int) (nl : Bool) (hnl : nl = true → b = []) (hb : ∀ c ∈ b, 0 ≤ c ∧ c < 256) :
    callN (envG G) F (n + 30) 36 [.d (.nums .u8 nl b)] = some ⟨sigV (parseB b), []⟩ := by
  have hp : callN (envG G) F (n + 29) _ _ = _ := t_Parse (G := G) F hF (n + 9) b nl hnl hb
  have hd : ∀ x1 x2 x3 x4 x5 x6 x7 (h : x4 = true → x5 = []) (h2 : x5.length ≤ 140737488355328), _ := fun x1 x2 x3 x4 x5 x6 x7 h h2 => t_digits (G := G) F (n + 26) x1 x2 x3 x4 x5 x6 x7 h h2
  have hr : ∀ (nl : Bool) (b : List Int) (h : nl = true → b = []) (h2 : ∀ c ∈ b, 0 ≤ c ∧ c < 256) (h3 : b.length ≤ 140737488355327), callN (envG G) F (n + 29) _ _ = _ := fun nl b h h2 h3 => t_read (G := G) hK hg F (n + 24) (by omega) nl b h h2 h3
  have hk : ∀ x, parseB b = .ok x → ∀ y ∈ x.kids, y.plainOk := fun x hx y hy => by
    have h := parseB_ok hb hx
    have h2 := parseB_nil hx
    obtain ⟨x1, x2, x3, x4, x5, x6, x7⟩ := x
    simp only [Tlv.kids] at hy
    have h3 := h.2.2.2.2.2
    simp only [Tlv.weight] at h3
    have h4 := weight_mem hy
    exact plainOk_of (W := 1048576) (nilOk_mem h2.2.2 hy) (bytesOk_mem h.2.2.2.2.1.2 hy) (by omega) (by omega)
  clear hK hg
  rw [callN_run (fn := Tryz.f36) rfl rfl rfl (by simp [Tryz.ntmps36])]
  generalize hC : (envG G).ctx 36 (callN (envG G) F (n+29)) (callP (envG G) F (n+29)) = C
  have htt : C.tt = (envG G).tt := by rw [← hC]; rfl
  have hlin : C.lin = [] := by rw [← hC]; rfl
  have hreg : C.reg = reg36 := by rw [← hC]; rfl
  have hcall : C.call = callN (envG G) F (n+29) := by rw [← hC]; rfl
  have hcallP : C.callP = callP (envG G) F (n+29) := by rw [← hC]; rfl
  clear hC
  generalize hpb : parseB b = r at *
  cases r with
  | bad c p =>
    clear hk
    simp only [parseV, zeroT, Tlv.cells, Tlv.cellsL] at hp
    simp only [sigV, noSig, sigD, List.map, List.cons_append, List.nil_append]
    have hne : ∃ t x, atD c p = .ifc t x := by
      unfold atD; split
      · exact ⟨_, _, rfl⟩
      · exact ⟨_, _, rfl⟩
    obtain ⟨t, x, hne⟩ := hne
    rw [hne] at hp ⊢
    simp [htt, hlin, hreg, reg36, hcall, hcallP, hp]
  | ok x =>
    obtain ⟨x1, x2, x3, x4, x5, x6, x7⟩ := x
    have hk' := hk _ rfl
    simp only [Tlv.kids] at hk'
    clear hk
    simp only [parseV, Tlv.cells] at hp
    have hc7 := cellsL_len x7
    by_cases h4 : x7.length = 2
    case neg =>
      have hs : sigOf (.mk x1 x2 x3 x4 x5 x6 x7) = .inl 7 := by
        rcases x7 with _ | ⟨a, _ | ⟨b, _ | ⟨c, t⟩⟩⟩ <;> first | rfl | (simp at h4)
      simp only [sigV, hs, noSig, sigD, List.map, List.cons_append, List.nil_append]
      unfold err
      have h4' : ¬ (x7.length : Int) = 2 := by omega
      by_cases h1 : x1 = 0
      · by_cases h2 : x2 = 16
        · cases x3 <;> simp [htt, hlin, hreg, reg36, hcall, hcallP, hp, h1, h2, hc7, h4, h4']
        · simp [htt, hlin, hreg, reg36, hcall, hcallP, hp, h1, h2]
      · simp [htt, hlin, hreg, reg36, hcall, hcallP, hp, h1]
    case pos =>
      obtain ⟨k0, k1, rfl⟩ := two_of h4
      by_cases h : x1 = 0 ∧ x2 = 16 ∧ x3 = true
      case neg =>
        have hs : sigOf (.mk x1 x2 x3 x4 x5 x6 [k0, k1]) = .inl 7 := by
          simp only [sigOf, if_neg h]
        simp only [sigV, hs, noSig, sigD, List.map, List.cons_append, List.nil_append]
        unfold err
        by_cases h1 : x1 = 0
        · by_cases h2 : x2 = 16
          · cases x3
            · simp [htt, hlin, hreg, reg36, hcall, hcallP, hp, h1, h2]
            · exact absurd ⟨h1, h2, rfl⟩ h
          · simp [htt, hlin, hreg, reg36, hcall, hcallP, hp, h1, h2]
        · simp [htt, hlin, hreg, reg36, hcall, hcallP, hp, h1]
      case pos =>
        obtain ⟨rfl, rfl, rfl⟩ := h
        have p0 := hk' k0 (by simp)
        have p1 := hk' k1 (by simp)
        clear hk'
        obtain ⟨y1, y2, y3, y4, y5, y6, y7⟩ := k0
        obtain ⟨z1, z2, z3, z4, z5, z6, z7⟩ := k1
        simp only [Tlv.plainOk] at p0 p1
        obtain ⟨m0, g0, w0⟩ := hd y1 y2 y3 y4 y5 y6 y7 p0.1 (by have := p0.2.1; omega)
        obtain ⟨m1, g1, w1⟩ := hd z1 z2 z3 z4 z5 z6 z7 p1.1 (by have := p1.2.1; omega)
        clear hd
        simp only [Tlv.cellsL, Tlv.cells] at hp
        by_cases a0 : y1 = 0 ∧ y2 = 2 ∧ y3 = false
        case neg =>
          rw [if_neg a0] at g0
          have hs : sigOf (.mk 0 16 true x4 x5 x6 [.mk y1 y2 y3 y4 y5 y6 y7, .mk z1 z2 z3 z4 z5 z6 z7]) = .inl 7 := by
            simp [sigOf, Tlv.isNum, a0]
          simp only [sigV, hs, noSig, sigD, List.map, List.cons_append, List.nil_append]
          unfold err
          by_cases a1 : z1 = 0 ∧ z2 = 2 ∧ z3 = false
          · rw [if_pos a1] at g1
            simp [htt, hlin, hreg, reg36, hcall, hcallP, hp, g0, g1]
          · rw [if_neg a1] at g1
            simp [htt, hlin, hreg, reg36, hcall, hcallP, hp, g0, g1]
        case pos =>
          rw [if_pos a0] at g0
          by_cases a1 : z1 = 0 ∧ z2 = 2 ∧ z3 = false
          case neg =>
            rw [if_neg a1] at g1
            have hs : sigOf (.mk 0 16 true x4 x5 x6 [.mk y1 y2 y3 y4 y5 y6 y7, .mk z1 z2 z3 z4 z5 z6 z7]) = .inl 7 := by
              simp [sigOf, Tlv.isNum, a1]
            simp only [sigV, hs, noSig, sigD, List.map, List.cons_append, List.nil_append]
            unfold err
            cases hn0 : numOk y5 <;> rw [hn0] at g0 <;> simp [htt, hlin, hreg, reg36, hcall, hcallP, hp, g0, g1]
          case pos =>
            rw [if_pos a1] at g1
            have hN : sigOf (.mk 0 16 true x4 x5 x6 [.mk y1 y2 y3 y4 y5 y6 y7, .mk z1 z2 z3 z4 z5 z6 z7]) = (match numOk y5 && numOk z5 with
              | true => (match rdOk (numV y5) && rdOk (numV z5) with
                | true => .inr (limbs (numV y5), limbs (numV z5))
                | false => .inl 3)
              | false => .inl 7) := by
              simp [sigOf, Tlv.isNum, a0, a1, Tlv.body]
            simp only [sigV, hN]
            clear hN
            have r0 := hr m0 (numV y5) w0 (numV_bytes p0.2.2) (by have := numV_len y5; omega)
            have r1 := hr m1 (numV z5) w1 (numV_bytes p1.2.2) (by have := numV_len z5; omega)
            clear hr w0 w1
            cases hn0 : numOk y5
            · rw [hn0] at g0
              simp only [Bool.false_and, noSig, sigD, List.map, List.cons_append, List.nil_append]
              unfold err
              cases hn1 : numOk z5 <;> rw [hn1] at g1 <;> simp [htt, hlin, hreg, reg36, hcall, hcallP, hp, g0, g1]
            · rw [hn0] at g0
              cases hn1 : numOk z5
              · rw [hn1] at g1
                simp only [Bool.and_false, noSig, sigD, List.map, List.cons_append, List.nil_append]
                unfold err
                simp [htt, hlin, hreg, reg36, hcall, hcallP, hp, g0, g1]
              · rw [hn1] at g1
                simp only [Bool.and_self]
                obtain ⟨a0, a1, a2, a3, a4, a5, he0⟩ := limbs_six (numV y5)
                obtain ⟨b0, b1, b2, b3, b4, b5, he1⟩ := limbs_six (numV z5)
                have q0 : callN (envG G) F (n + 29) 63 [.d (.nums .u8 m0 (numV y5))] = some ⟨[.d (limbD (if rdOk (numV y5) = true then [a0, a1, a2, a3, a4, a5] else if 48 < (numV y5).length then [0, 0, 0, 0, 0, 0] else [a0, a1, a2, a3, a4, a5])), .d (.bool (rdOk (numV y5)))], []⟩ := by
                  rw [r0]
                  unfold rdOk
                  by_cases h : 48 < (numV y5).length
                  · have : ¬ (numV y5).length ≤ 48 := by omega
                    simp [h, this]
                  · have : (numV y5).length ≤ 48 := by omega
                    simp [h, this, he0]
                have q1 : callN (envG G) F (n + 29) 63 [.d (.nums .u8 m1 (numV z5))] = some ⟨[.d (limbD (if rdOk (numV z5) = true then [b0, b1, b2, b3, b4, b5] else if 48 < (numV z5).length then [0, 0, 0, 0, 0, 0] else [b0, b1, b2, b3, b4, b5])), .d (.bool (rdOk (numV z5)))], []⟩ := by
                  rw [r1]
                  unfold rdOk
                  by_cases h : 48 < (numV z5).length
                  · have : ¬ (numV z5).length ≤ 48 := by omega
                    simp [h, this]
                  · have : (numV z5).length ≤ 48 := by omega
                    simp [h, this, he1]
                clear r0 r1
                rw [he0, he1]
                have pick : ∀ (c : Prop) [Decidable c] (x y : List Int), ∃ z, (if c then x else y) = z := fun c _ x y => ⟨_, rfl⟩
                have six0 : ∃ c0 c1 c2 c3 c4 c5, (if 48 < (numV y5).length then [0, 0, 0, 0, 0, 0] else [a0, a1, a2, a3, a4, a5]) = [c0, c1, c2, c3, c4, c5] := by
                  split
                  · exact ⟨_, _, _, _, _, _, rfl⟩
                  · exact ⟨_, _, _, _, _, _, rfl⟩
                have six1 : ∃ c0 c1 c2 c3 c4 c5, (if 48 < (numV z5).length then [0, 0, 0, 0, 0, 0] else [b0, b1, b2, b3, b4, b5]) = [c0, c1, c2, c3, c4, c5] := by
                  split
                  · exact ⟨_, _, _, _, _, _, rfl⟩
                  · exact ⟨_, _, _, _, _, _, rfl⟩
                obtain ⟨c0, c1, c2, c3, c4, c5, hc⟩ := six0
                obtain ⟨d0, d1, d2, d3, d4, d5, hd⟩ := six1
                rw [hc] at q0
                rw [hd] at q1
                cases t0 : rdOk (numV y5)
                · rw [t0] at q0
                  simp only [Bool.false_and, noSig, sigD, List.map, List.cons_append, List.nil_append]
                  simp only [Bool.false_eq_true, if_false, limbD, List.map] at q0
                  unfold err
                  cases t1 : rdOk (numV z5)
                  · rw [t1] at q1
                    simp only [Bool.false_eq_true, if_false, limbD, List.map] at q1
                    simp [htt, hlin, hreg, reg36, hcall, hcallP, hp, g0, g1, q0, q1]
                  · rw [t1] at q1
                    simp only [if_true, limbD, List.map] at q1
                    simp [htt, hlin, hreg, reg36, hcall, hcallP, hp, g0, g1, q0, q1]
                · rw [t0] at q0
                  simp only [if_true, limbD, List.map] at q0
                  cases t1 : rdOk (numV z5)
                  · rw [t1] at q1
                    simp only [Bool.and_false, noSig, sigD, List.map, List.cons_append, List.nil_append]
                    simp only [Bool.false_eq_true, if_false, limbD, List.map] at q1
                    unfold err
                    simp [htt, hlin, hreg, reg36, hcall, hcallP, hp, g0, g1, q0, q1]
                  · rw [t1] at q1
                    simp only [if_true, limbD, List.map] at q1
                    simp only [Bool.and_self, sigD, List.map, List.cons_append, List.nil_append]
                    simp [htt, hlin, hreg, reg36, hcall, hcallP, hp, g0, g1, q0, q1]
end Go.Proofs.YtjmcgdhekjkjfaaGreatDoor
set_option linter.unusedSimpArgs false
set_option linter.unusedVariables false
namespace Go.Proofs.YtjmcgdhekjkjfaaGreatDoor
open Go Go.VM
set_option maxRecDepth 100000
set_option maxHeartbeats 4000000
def sumQ (h : Nat → Int) : Nat → Int
  | 0 => 0
  | n + 1 => sumQ h n + h n * 4294967296 ^ n
theorem vL_range (h : Nat → Int) : ∀ n, vL ((List.range n).map h) = sumQ h n
  | 0 => rfl
  | n + 1 => by
    rw [List.range_succ, List.map_append, vL_append, vL_range h n]
    simp only [List.map_cons, List.map_nil, vL, List.length_map, List.length_range, Int.mul_zero, Int.add_zero, sumQ]
    rw [Int.mul_comm]
def sB (f : Nat → Int) : Nat → Int
  | 0 => 0
  | k + 1 => sB f k + f k * 256 ^ k
theorem sB_congr {f g : Nat → Int} : ∀ n, (∀ k, k < n → f k = g k) → sB f n = sB g n
  | 0, _ => rfl
  | n + 1, h => by simp only [sB, sB_congr n (fun k hk => h k (by omega)), h n (by omega)]
def cutF (b : List Int) (k : Nat) : Int := if k < b.length then b.getD (b.length - 1 - k) 0 else 0
theorem fdig_cut (b : List Int) (q : Nat) : fdig b b.length q = cutF b (4 * q) + cutF b (4 * q + 1) * 256 + cutF b (4 * q + 2) * 65536 + cutF b (4 * q + 3) * 16777216 := by
  unfold fdig fpart cutF
  simp only [Int.reducePow, Nat.add_zero, Int.mul_one]
  split <;> split <;> split <;> split <;> omega
theorem sumQ_cut (b : List Int) : ∀ n, sumQ (fdig b b.length) n = sB (cutF b) (4 * n)
  | 0 => rfl
  | n + 1 => by
    rw [show 4 * (n + 1) = 4 * n + 1 + 1 + 1 + 1 by omega]
    simp only [sB, sumQ, sumQ_cut b n, fdig_cut]
    have e : (4294967296 : Int) ^ n = 256 ^ (4 * n) := by rw [Int.pow_mul]; rfl
    have e1 : (256 : Int) ^ (4 * n + 1) = 256 * 256 ^ (4 * n) := by rw [Int.pow_succ]; exact Int.mul_comm ..
    have e2 : (256 : Int) ^ (4 * n + 1 + 1) = 65536 * 256 ^ (4 * n) := by rw [Int.pow_succ, e1]; omega
    have e3 : (256 : Int) ^ (4 * n + 1 + 1 + 1) = 16777216 * 256 ^ (4 * n) := by rw [Int.pow_succ, e2]; omega
    rw [e, e1, e2, e3]
    generalize (256 : Int) ^ (4 * n) = P
    generalize cutF b (4 * n) = w
    rw [show 4 * n + 1 + 1 = 4 * n + 2 by omega, show 4 * n + 2 + 1 = 4 * n + 3 by omega]
    generalize cutF b (4 * n + 1) = x
    generalize cutF b (4 * n + 2) = y
    generalize cutF b (4 * n + 3) = z
    simp only [Int.add_mul, Int.mul_assoc]
    omega
theorem sB_zero (b : List Int) : ∀ d, sB (cutF b) (b.length + d) = sB (cutF b) b.length
  | 0 => rfl
  | d + 1 => by
    rw [show b.length + (d + 1) = b.length + d + 1 by omega]
    simp only [sB, sB_zero b d]
    have : cutF b (b.length + d) = 0 := by unfold cutF; rw [if_neg (by omega)]
    rw [this]; omega
theorem val_acc : ∀ (t : List Int) (v : Int), val v t = v * 256 ^ t.length + val 0 t
  | [], v => by simp [val]
  | x :: t, v => by
    simp only [val, List.length_cons, Int.zero_mul, Int.zero_add]
    rw [val_acc t (v * 256 + x), val_acc t x, Int.pow_succ, Int.add_mul, Int.mul_assoc, Int.mul_comm 256]
    omega
theorem sB_val : ∀ b : List Int, sB (cutF b) b.length = val 0 b
  | [] => rfl
  | x :: t => by
    have ih := sB_val t
    have h1 : sB (cutF (x :: t)) t.length = sB (cutF t) t.length := sB_congr _ fun k hk => by
      unfold cutF
      rw [if_pos (by simp only [List.length_cons]; omega), if_pos hk]
      have : (x :: t).length - 1 - k = (t.length - 1 - k) + 1 := by simp only [List.length_cons]; omega
      rw [this]
      simp [List.getD]
    have h2 : cutF (x :: t) t.length = x := by
      unfold cutF
      rw [if_pos (by simp)]
      simp
    simp only [List.length_cons, sB, h1, h2, ih, val, Int.zero_mul, Int.zero_add]
    rw [val_acc t x]
    omega
theorem fromL_val (b : List Int) : vL (fromL b b.length) = val 0 b := by
  unfold fromL
  rw [vL_range, sumQ_cut]
  have h : 4 * (b.length / 4 + 1) = b.length + (4 * (b.length / 4 + 1) - b.length) := by omega
  rw [h, sB_zero, sB_val]
theorem fromL_in {b : List Int} (hb : ∀ c ∈ b, 0 ≤ c ∧ c < 256) (i : Nat) : In32 (fromL b i) := by
  intro x hx
  unfold fromL at hx
  rw [List.mem_map] at hx
  obtain ⟨q, _, rfl⟩ := hx
  exact fdig_in hb i q
theorem val_nonneg {b : List Int} (hb : ∀ c ∈ b, 0 ≤ c ∧ c < 256) : 0 ≤ val 0 b := by
  have := vL_nonneg _ (fromL_in hb b.length)
  rwa [fromL_val] at this
def digs (b : List Int) : List Int := trimL (fromL b b.length)
end Go.Proofs.YtjmcgdhekjkjfaaGreatDoor
namespace Go.Proofs.YtjmcgdhekjkjfaaGreatDoor
open Go Go.VM
set_option linter.unusedSimpArgs false
set_option linter.unusedVariables false
theorem sizeB_bytes {n : Nat} (h : n < 16777216) : ∀ c ∈ sizeB n, 0 ≤ c ∧ c < 256 := by
  intro c hc
  unfold sizeB at hc
  split at hc
  · simp only [List.mem_singleton] at hc; omega
  · split at hc
    · simp only [List.mem_cons, List.not_mem_nil, or_false] at hc; omega
    · split at hc
      · simp only [List.mem_cons, List.not_mem_nil, or_false] at hc; omega
      · simp only [List.mem_cons, List.not_mem_nil, or_false] at hc; omega
mutual
theorem enc_bytes : ∀ x : Tlv, x.fine = true → x.bytesOk → x.enc.length < 16777216 → ∀ c ∈ x.enc, 0 ≤ c ∧ c < 256
  | .mk k t m bn b kn ks, hf, hb, hl => by
    simp only [Tlv.fine, Bool.and_eq_true, decide_eq_true_eq] at hf
    obtain ⟨⟨c0, c3, t0, t30, _, _⟩, hfl⟩ := hf
    simp only [Tlv.enc, headB, List.length_append, List.length_cons] at hl
    have hk := encL_bytes ks hfl hb.2 (by omega)
    have hs := sizeB_bytes (n := b.length + (Tlv.encL ks).length) (by omega)
    intro c hc
    simp only [Tlv.enc, headB, List.length_append, List.cons_append, List.mem_cons, List.mem_append] at hc
    rcases hc with rfl | hc | hc | hc
    · cases m <;> simp <;> omega
    · exact hs c hc
    · exact hb.1 c hc
    · exact hk c hc
theorem encL_bytes : ∀ l : List Tlv, Tlv.fineL l = true → Tlv.bytesOkL l → (Tlv.encL l).length < 16777216 → ∀ c ∈ Tlv.encL l, 0 ≤ c ∧ c < 256
  | [], _, _, _ => by simp [Tlv.encL]
  | x :: l, hf, hb, hl => by
    simp only [Tlv.fineL, Bool.and_eq_true] at hf
    simp only [Tlv.encL, List.length_append] at hl
    intro c hc
    simp only [Tlv.encL, List.mem_append] at hc
    rcases hc with hc | hc
    · exact enc_bytes x hf.1 hb.1 (by omega) c hc
    · exact encL_bytes l hf.2 hb.2 (by omega) c hc
end
end Go.Proofs.YtjmcgdhekjkjfaaGreatDoor
set_option linter.unusedSimpArgs false
set_option linter.unusedVariables false
namespace Go.Proofs.YtjmcgdhekjkjfaaGreatDoor
open Go Go.VM
set_option maxRecDepth 100000
set_option maxHeartbeats 4000000
theorem bytes8 {x : Int} (h : 0 ≤ x ∧ x < 18446744073709551616) : x / 256 ^ 0 % 256 + x / 256 ^ 1 % 256 * 256 + x / 256 ^ 2 % 256 * 65536 + x / 256 ^ 3 % 256 * 16777216 + x / 256 ^ 4 % 256 * 4294967296 + x / 256 ^ 5 % 256 * 1099511627776 + x / 256 ^ 6 % 256 * 281474976710656 + x / 256 ^ 7 % 256 * 72057594037927936 = x := by
  simp only [Int.reducePow]
  omega
theorem B6_val {a0 a1 a2 a3 a4 a5 : Int} (ha : In64 [a0, a1, a2, a3, a4, a5]) : val 0 (B6 [a0, a1, a2, a3, a4, a5]) = wL [a0, a1, a2, a3, a4, a5] := by
  simp only [In64, List.mem_cons, List.not_mem_nil, or_false, forall_eq_or_imp, forall_eq] at ha
  obtain ⟨h0, h1, h2, h3, h4, h5⟩ := ha
  have b0 := byteOf_eq (x := a0) h0 [a0, a1, a2, a3, a4, a5] 0 0 (by omega) rfl
  have b1 := byteOf_eq (x := a0) h0 [a0, a1, a2, a3, a4, a5] 0 1 (by omega) rfl
  have b2 := byteOf_eq (x := a0) h0 [a0, a1, a2, a3, a4, a5] 0 2 (by omega) rfl
  have b3 := byteOf_eq (x := a0) h0 [a0, a1, a2, a3, a4, a5] 0 3 (by omega) rfl
  have b4 := byteOf_eq (x := a0) h0 [a0, a1, a2, a3, a4, a5] 0 4 (by omega) rfl
  have b5 := byteOf_eq (x := a0) h0 [a0, a1, a2, a3, a4, a5] 0 5 (by omega) rfl
  have b6 := byteOf_eq (x := a0) h0 [a0, a1, a2, a3, a4, a5] 0 6 (by omega) rfl
  have b7 := byteOf_eq (x := a0) h0 [a0, a1, a2, a3, a4, a5] 0 7 (by omega) rfl
  have b8 := byteOf_eq (x := a1) h1 [a0, a1, a2, a3, a4, a5] 1 0 (by omega) rfl
  have b9 := byteOf_eq (x := a1) h1 [a0, a1, a2, a3, a4, a5] 1 1 (by omega) rfl
  have b10 := byteOf_eq (x := a1) h1 [a0, a1, a2, a3, a4, a5] 1 2 (by omega) rfl
  have b11 := byteOf_eq (x := a1) h1 [a0, a1, a2, a3, a4, a5] 1 3 (by omega) rfl
  have b12 := byteOf_eq (x := a1) h1 [a0, a1, a2, a3, a4, a5] 1 4 (by omega) rfl
  have b13 := byteOf_eq (x := a1) h1 [a0, a1, a2, a3, a4, a5] 1 5 (by omega) rfl
  have b14 := byteOf_eq (x := a1) h1 [a0, a1, a2, a3, a4, a5] 1 6 (by omega) rfl
  have b15 := byteOf_eq (x := a1) h1 [a0, a1, a2, a3, a4, a5] 1 7 (by omega) rfl
  have b16 := byteOf_eq (x := a2) h2 [a0, a1, a2, a3, a4, a5] 2 0 (by omega) rfl
  have b17 := byteOf_eq (x := a2) h2 [a0, a1, a2, a3, a4, a5] 2 1 (by omega) rfl
  have b18 := byteOf_eq (x := a2) h2 [a0, a1, a2, a3, a4, a5] 2 2 (by omega) rfl
  have b19 := byteOf_eq (x := a2) h2 [a0, a1, a2, a3, a4, a5] 2 3 (by omega) rfl
  have b20 := byteOf_eq (x := a2) h2 [a0, a1, a2, a3, a4, a5] 2 4 (by omega) rfl
  have b21 := byteOf_eq (x := a2) h2 [a0, a1, a2, a3, a4, a5] 2 5 (by omega) rfl
  have b22 := byteOf_eq (x := a2) h2 [a0, a1, a2, a3, a4, a5] 2 6 (by omega) rfl
  have b23 := byteOf_eq (x := a2) h2 [a0, a1, a2, a3, a4, a5] 2 7 (by omega) rfl
  have b24 := byteOf_eq (x := a3) h3 [a0, a1, a2, a3, a4, a5] 3 0 (by omega) rfl
  have b25 := byteOf_eq (x := a3) h3 [a0, a1, a2, a3, a4, a5] 3 1 (by omega) rfl
  have b26 := byteOf_eq (x := a3) h3 [a0, a1, a2, a3, a4, a5] 3 2 (by omega) rfl
  have b27 := byteOf_eq (x := a3) h3 [a0, a1, a2, a3, a4, a5] 3 3 (by omega) rfl
  have b28 := byteOf_eq (x := a3) h3 [a0, a1, a2, a3, a4, a5] 3 4 (by omega) rfl
  have b29 := byteOf_eq (x := a3) h3 [a0, a1, a2, a3, a4, a5] 3 5 (by omega) rfl
  have b30 := byteOf_eq (x := a3) h3 [a0, a1, a2, a3, a4, a5] 3 6 (by omega) rfl
  have b31 := byteOf_eq (x := a3) h3 [a0, a1, a2, a3, a4, a5] 3 7 (by omega) rfl
  have b32 := byteOf_eq (x := a4) h4 [a0, a1, a2, a3, a4, a5] 4 0 (by omega) rfl
  have b33 := byteOf_eq (x := a4) h4 [a0, a1, a2, a3, a4, a5] 4 1 (by omega) rfl
  have b34 := byteOf_eq (x := a4) h4 [a0, a1, a2, a3, a4, a5] 4 2 (by omega) rfl
  have b35 := byteOf_eq (x := a4) h4 [a0, a1, a2, a3, a4, a5] 4 3 (by omega) rfl
  have b36 := byteOf_eq (x := a4) h4 [a0, a1, a2, a3, a4, a5] 4 4 (by omega) rfl
  have b37 := byteOf_eq (x := a4) h4 [a0, a1, a2, a3, a4, a5] 4 5 (by omega) rfl
  have b38 := byteOf_eq (x := a4) h4 [a0, a1, a2, a3, a4, a5] 4 6 (by omega) rfl
  have b39 := byteOf_eq (x := a4) h4 [a0, a1, a2, a3, a4, a5] 4 7 (by omega) rfl
  have b40 := byteOf_eq (x := a5) h5 [a0, a1, a2, a3, a4, a5] 5 0 (by omega) rfl
  have b41 := byteOf_eq (x := a5) h5 [a0, a1, a2, a3, a4, a5] 5 1 (by omega) rfl
  have b42 := byteOf_eq (x := a5) h5 [a0, a1, a2, a3, a4, a5] 5 2 (by omega) rfl
  have b43 := byteOf_eq (x := a5) h5 [a0, a1, a2, a3, a4, a5] 5 3 (by omega) rfl
  have b44 := byteOf_eq (x := a5) h5 [a0, a1, a2, a3, a4, a5] 5 4 (by omega) rfl
  have b45 := byteOf_eq (x := a5) h5 [a0, a1, a2, a3, a4, a5] 5 5 (by omega) rfl
  have b46 := byteOf_eq (x := a5) h5 [a0, a1, a2, a3, a4, a5] 5 6 (by omega) rfl
  have b47 := byteOf_eq (x := a5) h5 [a0, a1, a2, a3, a4, a5] 5 7 (by omega) rfl
  have w0 := bytes8 h0; have w1 := bytes8 h1; have w2 := bytes8 h2; have w3 := bytes8 h3; have w4 := bytes8 h4; have w5 := bytes8 h5
  unfold B6
  rw [range48]
  simp only [Nat.reduceMul, Nat.reduceAdd] at b0 b1 b2 b3 b4 b5 b6 b7 b8 b9 b10 b11 b12 b13 b14 b15 b16 b17 b18 b19 b20 b21 b22 b23 b24 b25 b26 b27 b28 b29 b30 b31 b32 b33 b34 b35 b36 b37 b38 b39 b40 b41 b42 b43 b44 b45 b46 b47
  simp only [Nat.reduceSub, val8, val, b0, b1, b2, b3, b4, b5, b6, b7, b8, b9, b10, b11, b12, b13, b14, b15, b16, b17, b18, b19, b20, b21, b22, b23, b24, b25, b26, b27, b28, b29, b30, b31, b32, b33, b34, b35, b36, b37, b38, b39, b40, b41, b42, b43, b44, b45, b46, b47, w0, w1, w2, w3, w4, w5, wL]
  omega
theorem B6_bytes {a : List Int} (ha : In64 a) : ∀ c ∈ B6 a, 0 ≤ c ∧ c < 256 := by
  intro c hc
  unfold B6 at hc
  rw [List.mem_map] at hc
  obtain ⟨j, _, rfl⟩ := hc
  unfold byteOf
  rw [u8_wrap]
  omega
theorem B6_len (a : List Int) : (B6 a).length = 48 := by simp [B6]
def bodyN (a : List Int) : List Int := match numberOf (B6 a) with | .inl _ => [] | .inr ys => ys
theorem numberOf_B6 (a : List Int) : numberOf (B6 a) = .inr (bodyN a) := by
  have h1 := strip_len (B6 a)
  rw [B6_len] at h1
  have : ∃ ys, numberOf (B6 a) = .inr ys := by
    unfold numberOf
    rw [if_neg (by omega)]
    split
    · exact ⟨_, rfl⟩
    · split
      · exact ⟨_, rfl⟩
      · exact ⟨_, rfl⟩
  obtain ⟨ys, hy⟩ := this
  unfold bodyN
  rw [hy]
theorem bodyN_len (a : List Int) : (bodyN a).length ≤ 49 := by
  have h1 := strip_len (B6 a)
  rw [B6_len] at h1
  have h := numberOf_B6 a
  unfold numberOf at h
  rw [if_neg (by omega)] at h
  split at h
  · injection h with h; rw [← h]; simp
  · rename_i b t hs
    rw [hs] at h1
    simp only [List.length_cons] at h1
    split at h
    · injection h with h; rw [← h]; simp only [List.length_cons]; omega
    · injection h with h; rw [← h]; simp only [List.length_cons]; omega
theorem strip_bytes {xs : List Int} (h : ∀ c ∈ xs, 0 ≤ c ∧ c < 256) : ∀ c ∈ strip xs, 0 ≤ c ∧ c < 256 := by
  rw [← drop_lead]
  exact fun c hc => h c (List.mem_of_mem_drop hc)
theorem bodyN_bytes {a : List Int} (ha : In64 a) : ∀ c ∈ bodyN a, 0 ≤ c ∧ c < 256 := by
  have h1 := strip_len (B6 a)
  rw [B6_len] at h1
  have hb := strip_bytes (B6_bytes ha)
  have h := numberOf_B6 a
  unfold numberOf at h
  rw [if_neg (by omega)] at h
  split at h
  · injection h with h; rw [← h]; simp
  · rename_i b t hs
    rw [hs] at hb
    split at h
    · injection h with h; rw [← h]
      intro c hc
      rcases List.mem_cons.1 hc with rfl | hc
      · omega
      · exact hb c hc
    · injection h with h; rw [← h]; exact hb
theorem bodyN_back {a : List Int} (ha : In64 a) (hl : a.length = 6) (hs : isScalar a = true) : numOk (bodyN a) = true ∧ rdOk (numV (bodyN a)) = true ∧ limbs (numV (bodyN a)) = a := by
  obtain ⟨a0, a1, a2, a3, a4, a5, rfl⟩ := six hl
  have hv := B6_val ha
  have hsv := val_strip (B6 [a0, a1, a2, a3, a4, a5])
  have h1 := strip_len (B6 [a0, a1, a2, a3, a4, a5])
  rw [B6_len] at h1
  have hb := strip_bytes (B6_bytes ha)
  have h := numberOf_B6 [a0, a1, a2, a3, a4, a5]
  have hsc := hs
  simp only [isScalar, Bool.and_eq_true, decide_eq_true_eq, Bool.not_eq_true', decide_eq_false_iff_not] at hsc
  have key : numB (bodyN [a0, a1, a2, a3, a4, a5]) = .inr (strip (B6 [a0, a1, a2, a3, a4, a5])) := by
    unfold numberOf at h
    rw [if_neg (by omega)] at h
    split at h
    · rename_i hn
      rw [hn] at hsv
      have : wL [a0, a1, a2, a3, a4, a5] = 0 := by rw [← hv, ← hsv]; rfl
      exact absurd this hsc.1
    · rename_i b t hst
      have hb0 := strip_head hst
      rw [hst] at h1 hb ⊢
      have hbb := hb b (by simp)
      simp only [List.length_cons] at h1
      split at h
      · rename_i h128
        injection h with h
        rw [← h]
        simp only [numB]
        rw [if_neg (by omega)]
        simp only [if_true]
        rw [if_neg (by omega), if_neg (by simp only [List.length_cons]; omega)]
      · injection h with h
        rw [← h]
        simp only [numB]
        rw [if_neg (by omega), if_neg hb0, if_neg (by simp only [List.length_cons]; omega)]
  have e1 : numV (bodyN [a0, a1, a2, a3, a4, a5]) = strip (B6 [a0, a1, a2, a3, a4, a5]) := by unfold numV; rw [key]
  have e2 : numOk (bodyN [a0, a1, a2, a3, a4, a5]) = true := by unfold numOk; rw [key]
  rw [e1]
  obtain ⟨l1, l2⟩ := limbs_ok hb h1
  have e3 : limbs (strip (B6 [a0, a1, a2, a3, a4, a5])) = [a0, a1, a2, a3, a4, a5] := by
    refine wL_inj (by rw [show limbs (strip (B6 [a0, a1, a2, a3, a4, a5])) = L6 _ from rfl, L6_len]; rfl) l2 ha ?_
    rw [← l1, hsv, hv]
  refine ⟨e2, ?_, e3⟩
  unfold rdOk
  rw [e3, hs]
  simp [h1]
def nT (b : List Int) : Tlv := .mk 0 2 false false b true []
def sigT (r s : List Int) : Tlv := .mk 0 16 true true [] false [nT (bodyN r), nT (bodyN s)]
theorem sigT_ok {r s : List Int} (hr : In64 r) (hs : In64 s) : (sigT r s).fine = true ∧ (sigT r s).depth ≤ 16 ∧ (sigT r s).weight ≤ 200 ∧ (sigT r s).bytesOk := by
  have h1 := bodyN_len r
  have h2 := bodyN_len s
  refine ⟨?_, ?_, ?_, ?_⟩
  · simp [sigT, nT, Tlv.fine, Tlv.fineL]
  · simp [sigT, nT, Tlv.depth, Tlv.depthL]
  · simp only [sigT, nT, Tlv.weight, Tlv.weightL, List.length_nil]
    omega
  · exact ⟨by simp, ⟨bodyN_bytes hr, trivial⟩, ⟨bodyN_bytes hs, trivial⟩, trivial⟩
theorem sigT_back {r s : List Int} (hr : In64 r) (hs : In64 s) (lr : r.length = 6) (ls : s.length = 6) (sr : isScalar r = true) (ss : isScalar s = true) : sigOf (sigT r s).norm = .inr (r, s) := by
  obtain ⟨p1, p2, p3⟩ := bodyN_back hr lr sr
  obtain ⟨q1, q2, q3⟩ := bodyN_back hs ls ss
  simp [sigT, nT, Tlv.norm, Tlv.normL, sigOf, Tlv.isNum, Tlv.body, p1, p2, p3, q1, q2, q3]
end Go.Proofs.YtjmcgdhekjkjfaaGreatDoor
set_option linter.unusedSimpArgs false
set_option linter.unusedVariables false
namespace Go.Proofs.YtjmcgdhekjkjfaaGreatDoor
open Go Go.VM
set_option maxRecDepth 100000
set_option maxHeartbeats 4000000
theorem val_lt : ∀ {b : List Int}, (∀ c ∈ b, 0 ≤ c ∧ c < 256) → val 0 b < 256 ^ b.length
  | [], _ => by simp [val]
  | x :: t, h => by
    have ih := val_lt (b := t) fun c hc => h c (List.mem_cons_of_mem _ hc)
    have hx := h x (by simp)
    have e : val 0 (x :: t) = x * 256 ^ t.length + val 0 t := by
      show val (0 * 256 + x) t = _
      rw [Int.zero_mul, Int.zero_add, val_acc]
    rw [e, List.length_cons, Int.pow_succ]
    have hP : (0 : Int) ≤ 256 ^ t.length := Int.pow_nonneg (by omega)
    have := Int.mul_le_mul_of_nonneg_right (show x ≤ 255 by omega) hP
    omega
theorem val_inj : ∀ {u v : List Int}, u.length = v.length → (∀ c ∈ u, 0 ≤ c ∧ c < 256) → (∀ c ∈ v, 0 ≤ c ∧ c < 256) → val 0 u = val 0 v → u = v
  | [], [], _, _, _, _ => rfl
  | [], _ :: _, h, _, _, _ => by cases h
  | _ :: _, [], h, _, _, _ => by cases h
  | x :: s, y :: t, hl, hu, hv, he => by
    have hl' : s.length = t.length := by simpa using hl
    have e : ∀ (x : Int) (t : List Int), val 0 (x :: t) = x * 256 ^ t.length + val 0 t := fun x t => by
      show val (0 * 256 + x) t = _
      rw [Int.zero_mul, Int.zero_add, val_acc]
    rw [e, e, hl'] at he
    have su := fun c hc => hu c (List.mem_cons_of_mem x hc)
    have sv := fun c hc => hv c (List.mem_cons_of_mem y hc)
    have a1 := val_nonneg su
    have a2 := val_nonneg sv
    have b1 := val_lt su
    have b2 := val_lt sv
    rw [hl'] at b1
    have hP : (0 : Int) < 256 ^ t.length := Int.pow_pos (by omega)
    generalize (256 : Int) ^ t.length = P at *
    have hxy : x = y := by
      rcases Int.lt_trichotomy x y with h | h | h
      · have := Int.mul_le_mul_of_nonneg_right (show x + 1 ≤ y by omega) (show 0 ≤ P by omega)
        rw [Int.add_mul] at this
        omega
      · exact h
      · have := Int.mul_le_mul_of_nonneg_right (show y + 1 ≤ x by omega) (show 0 ≤ P by omega)
        rw [Int.add_mul] at this
        omega
    subst hxy
    rw [val_inj hl' su sv (by omega)]
theorem strip_zeros : ∀ (k : Nat) (b : List Int), strip (List.replicate k 0 ++ b) = strip b
  | 0, b => rfl
  | k + 1, b => by simp [List.replicate_succ, strip, strip_zeros k b]
def sigB (b : List Int) : Option (List Int × List Int) :=
  match parseB b with
  | .ok x => (match sigOf x with
    | .inr p => some p
    | .inl _ => none)
  | .bad _ _ => none
end Go.Proofs.YtjmcgdhekjkjfaaGreatDoor
