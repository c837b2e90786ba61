/- ecdsa.Decode. -/
import Derived.Test.YtjmcgdhekjkjfaaDoorSI
import Derived.Test.YtjmcgdhekjkjfaaDoorSG
import Derived.Test.YtjmcgdhekjkjfaaDoorSC
import Derived.Test.YtjmcgdhekjkjfaaDoorSH
import Derived.Test.YtjmcgdhekjkjfaaDoorVMS
set_option linter.unusedSimpArgs false
set_option linter.unusedVariables false
namespace Go.Proofs.YtjmcgdhekjkjfaaDoor
open Go Go.VM
variable {G : GE}
set_option maxRecDepth 100000
set_option maxHeartbeats 4000000

def sigD (r s : List Int) : D := .agg ((r ++ s).map (.int .u64))
def noSig : D := sigD [0, 0, 0, 0, 0, 0] [0, 0, 0, 0, 0, 0]
def Tlv.isNum : Tlv → Bool
  | .mk c t m _ b _ _ => decide (c = 0 ∧ t = 2 ∧ m = false) && numOk b
def rdOk (b : List Int) : Bool := decide (b.length ≤ 48) && isScalar (limbs b)
/-- The signature of an element, or what is amiss. -/
def sigOf : Tlv → Sum Int (List Int × List Int)
  | .mk c t m _ _ _ [k0, k1] => if c = 0 ∧ t = 16 ∧ m = true then (match k0.isNum && k1.isNum with
    | true => (match rdOk (numV k0.body) && rdOk (numV k1.body) with
      | true => .inr (limbs (numV k0.body), limbs (numV k1.body))
      | false => .inl 3)
    | false => .inl 7) else .inl 7
  | _ => .inl 7
def sigV : Res Tlv → List V
  | .bad c p => [.d noSig, .d (atD c p)]
  | .ok x => match sigOf x with
    | .inl e => [.d noSig, .d (err e)]
    | .inr (r, s) => [.d (sigD r s), .d .nilifc]

theorem numV_bytes {b : List Int} (hb : ∀ c ∈ b, 0 ≤ c ∧ c < 256) : ∀ c ∈ numV b, 0 ≤ c ∧ c < 256 := by
  intro c hc
  unfold numV numB at hc
  cases b with
  | nil => simp at hc
  | cons x t =>
    simp only at hc
    split at hc
    · simp at hc
    · rename_i ys hys
      split at hys
      · cases hys
      · split at hys
        · cases t with
          | nil => simp at hys; subst hys; simp at hc
          | cons y u =>
            simp only at hys
            split at hys
            · cases hys
            · split at hys
              · cases hys
              · injection hys with hys; subst hys; exact hb c (List.mem_cons_of_mem _ hc)
        · split at hys
          · cases hys
          · injection hys with hys; subst hys; exact hb c hc
theorem numV_len (b : List Int) : (numV b).length ≤ 64 := by
  unfold numV numB
  cases b with
  | nil => simp
  | cons x t =>
    simp only
    split
    · simp
    · rename_i ys hys
      split at hys
      · cases hys
      · split at hys
        · cases t with
          | nil => simp at hys; subst hys; simp
          | cons y u =>
            simp only at hys
            split at hys
            · cases hys
            · split at hys
              · cases hys
              · injection hys with hys; subst hys; omega
        · split at hys
          · cases hys
          · injection hys with hys; subst hys; omega

theorem two_of {α : Type} {l : List α} (h : l.length = 2) : ∃ a b, l = [a, b] := by
  rcases l with _ | ⟨a, _ | ⟨b, _ | ⟨c, t⟩⟩⟩ <;> simp at h
  exact ⟨a, b, rfl⟩
theorem limbs_six (b : List Int) : ∃ a0 a1 a2 a3 a4 a5, limbs b = [a0, a1, a2, a3, a4, a5] := six (L6_len _)

theorem t_eDecode (hK : SubK G) (hg : GroupG G) (F : Nat) (hF : 1048580 < F) (n : Nat) (b : List Int) (nl : Bool) (hnl : nl = true → b = []) (hb : ∀ c ∈ b, 0 ≤ c ∧ c < 256) :
    callN (envG G) F (n + 30) 42 [.d (.nums .u8 nl b)] = some ⟨sigV (parseB b), []⟩ := by
  have hp : callN (envG G) F (n + 29) _ _ = _ := t_Parse (G := G) F hF (n + 9) b nl hnl hb
  have hd : ∀ x1 x2 x3 x4 x5 x6 x7 (h : x4 = true → x5 = []) (h2 : x5.length ≤ 140737488355328), _ := fun x1 x2 x3 x4 x5 x6 x7 h h2 => t_digits (G := G) F (n + 26) x1 x2 x3 x4 x5 x6 x7 h h2
  have hr : ∀ (nl : Bool) (b : List Int) (h : nl = true → b = []) (h2 : ∀ c ∈ b, 0 ≤ c ∧ c < 256) (h3 : b.length ≤ 140737488355327), callN (envG G) F (n + 29) _ _ = _ := fun nl b h h2 h3 => t_read (G := G) hK hg F (n + 24) (by omega) nl b h h2 h3
  have hk : ∀ x, parseB b = .ok x → ∀ y ∈ x.kids, y.plainOk := fun x hx y hy => by
    have h := parseB_ok hb hx
    have h2 := parseB_nil hx
    obtain ⟨x1, x2, x3, x4, x5, x6, x7⟩ := x
    simp only [Tlv.kids] at hy
    have h3 := h.2.2.2.2.2
    simp only [Tlv.weight] at h3
    have h4 := weight_mem hy
    exact plainOk_of (W := 1048576) (nilOk_mem h2.2.2 hy) (bytesOk_mem h.2.2.2.2.1.2 hy) (by omega) (by omega)
  clear hK hg
  rw [callN_run (fn := Tryd.f42) rfl rfl rfl (by simp [Tryd.ntmps42])]
  generalize hC : (envG G).ctx 42 (callN (envG G) F (n+29)) (callP (envG G) F (n+29)) = C
  have htt : C.tt = (envG G).tt := by rw [← hC]; rfl
  have hlin : C.lin = [] := by rw [← hC]; rfl
  have hreg : C.reg = reg42 := by rw [← hC]; rfl
  have hcall : C.call = callN (envG G) F (n+29) := by rw [← hC]; rfl
  have hcallP : C.callP = callP (envG G) F (n+29) := by rw [← hC]; rfl
  clear hC
  generalize hpb : parseB b = r at *
  cases r with
  | bad c p =>
    clear hk
    simp only [parseV, zeroT, Tlv.cells, Tlv.cellsL] at hp
    simp only [sigV, noSig, sigD, List.map, List.cons_append, List.nil_append]
    have hne : ∃ t x, atD c p = .ifc t x := by
      unfold atD; split
      · exact ⟨_, _, rfl⟩
      · exact ⟨_, _, rfl⟩
    obtain ⟨t, x, hne⟩ := hne
    rw [hne] at hp ⊢
    simp [htt, hlin, hreg, reg42, hcall, hcallP, hp]
  | ok x =>
    obtain ⟨x1, x2, x3, x4, x5, x6, x7⟩ := x
    have hk' := hk _ rfl
    simp only [Tlv.kids] at hk'
    clear hk
    simp only [parseV, Tlv.cells] at hp
    have hc7 := cellsL_len x7
    by_cases h4 : x7.length = 2
    case neg =>
      have hs : sigOf (.mk x1 x2 x3 x4 x5 x6 x7) = .inl 7 := by
        rcases x7 with _ | ⟨a, _ | ⟨b, _ | ⟨c, t⟩⟩⟩ <;> first | rfl | (simp at h4)
      simp only [sigV, hs, noSig, sigD, List.map, List.cons_append, List.nil_append]
      unfold err
      have h4' : ¬ (x7.length : Int) = 2 := by omega
      by_cases h1 : x1 = 0
      · by_cases h2 : x2 = 16
        · cases x3 <;> simp [htt, hlin, hreg, reg42, hcall, hcallP, hp, h1, h2, hc7, h4, h4']
        · simp [htt, hlin, hreg, reg42, hcall, hcallP, hp, h1, h2]
      · simp [htt, hlin, hreg, reg42, hcall, hcallP, hp, h1]
    case pos =>
      obtain ⟨k0, k1, rfl⟩ := two_of h4
      by_cases h : x1 = 0 ∧ x2 = 16 ∧ x3 = true
      case neg =>
        have hs : sigOf (.mk x1 x2 x3 x4 x5 x6 [k0, k1]) = .inl 7 := by
          simp only [sigOf, if_neg h]
        simp only [sigV, hs, noSig, sigD, List.map, List.cons_append, List.nil_append]
        unfold err
        by_cases h1 : x1 = 0
        · by_cases h2 : x2 = 16
          · cases x3
            · simp [htt, hlin, hreg, reg42, hcall, hcallP, hp, h1, h2]
            · exact absurd ⟨h1, h2, rfl⟩ h
          · simp [htt, hlin, hreg, reg42, hcall, hcallP, hp, h1, h2]
        · simp [htt, hlin, hreg, reg42, hcall, hcallP, hp, h1]
      case pos =>
        obtain ⟨rfl, rfl, rfl⟩ := h
        have p0 := hk' k0 (by simp)
        have p1 := hk' k1 (by simp)
        clear hk'
        obtain ⟨y1, y2, y3, y4, y5, y6, y7⟩ := k0
        obtain ⟨z1, z2, z3, z4, z5, z6, z7⟩ := k1
        simp only [Tlv.plainOk] at p0 p1
        obtain ⟨m0, g0, w0⟩ := hd y1 y2 y3 y4 y5 y6 y7 p0.1 (by have := p0.2.1; omega)
        obtain ⟨m1, g1, w1⟩ := hd z1 z2 z3 z4 z5 z6 z7 p1.1 (by have := p1.2.1; omega)
        clear hd
        simp only [Tlv.cellsL, Tlv.cells] at hp
        by_cases a0 : y1 = 0 ∧ y2 = 2 ∧ y3 = false
        case neg =>
          rw [if_neg a0] at g0
          have hs : sigOf (.mk 0 16 true x4 x5 x6 [.mk y1 y2 y3 y4 y5 y6 y7, .mk z1 z2 z3 z4 z5 z6 z7]) = .inl 7 := by
            simp [sigOf, Tlv.isNum, a0]
          simp only [sigV, hs, noSig, sigD, List.map, List.cons_append, List.nil_append]
          unfold err
          by_cases a1 : z1 = 0 ∧ z2 = 2 ∧ z3 = false
          · rw [if_pos a1] at g1
            simp [htt, hlin, hreg, reg42, hcall, hcallP, hp, g0, g1]
          · rw [if_neg a1] at g1
            simp [htt, hlin, hreg, reg42, hcall, hcallP, hp, g0, g1]
        case pos =>
          rw [if_pos a0] at g0
          by_cases a1 : z1 = 0 ∧ z2 = 2 ∧ z3 = false
          case neg =>
            rw [if_neg a1] at g1
            have hs : sigOf (.mk 0 16 true x4 x5 x6 [.mk y1 y2 y3 y4 y5 y6 y7, .mk z1 z2 z3 z4 z5 z6 z7]) = .inl 7 := by
              simp [sigOf, Tlv.isNum, a1]
            simp only [sigV, hs, noSig, sigD, List.map, List.cons_append, List.nil_append]
            unfold err
            cases hn0 : numOk y5 <;> rw [hn0] at g0 <;> simp [htt, hlin, hreg, reg42, hcall, hcallP, hp, g0, g1]
          case pos =>
            rw [if_pos a1] at g1
            have hN : sigOf (.mk 0 16 true x4 x5 x6 [.mk y1 y2 y3 y4 y5 y6 y7, .mk z1 z2 z3 z4 z5 z6 z7]) = (match numOk y5 && numOk z5 with
              | true => (match rdOk (numV y5) && rdOk (numV z5) with
                | true => .inr (limbs (numV y5), limbs (numV z5))
                | false => .inl 3)
              | false => .inl 7) := by
              simp [sigOf, Tlv.isNum, a0, a1, Tlv.body]
            simp only [sigV, hN]
            clear hN
            have r0 := hr m0 (numV y5) w0 (numV_bytes p0.2.2) (by have := numV_len y5; omega)
            have r1 := hr m1 (numV z5) w1 (numV_bytes p1.2.2) (by have := numV_len z5; omega)
            clear hr w0 w1
            cases hn0 : numOk y5
            · rw [hn0] at g0
              simp only [Bool.false_and, noSig, sigD, List.map, List.cons_append, List.nil_append]
              unfold err
              cases hn1 : numOk z5 <;> rw [hn1] at g1 <;> simp [htt, hlin, hreg, reg42, hcall, hcallP, hp, g0, g1]
            · rw [hn0] at g0
              cases hn1 : numOk z5
              · rw [hn1] at g1
                simp only [Bool.and_false, noSig, sigD, List.map, List.cons_append, List.nil_append]
                unfold err
                simp [htt, hlin, hreg, reg42, hcall, hcallP, hp, g0, g1]
              · rw [hn1] at g1
                simp only [Bool.and_self]
                obtain ⟨a0, a1, a2, a3, a4, a5, he0⟩ := limbs_six (numV y5)
                obtain ⟨b0, b1, b2, b3, b4, b5, he1⟩ := limbs_six (numV z5)
                have q0 : callN (envG G) F (n + 29) 84 [.d (.nums .u8 m0 (numV y5))] = some ⟨[.d (limbD (if rdOk (numV y5) = true then [a0, a1, a2, a3, a4, a5] else if 48 < (numV y5).length then [0, 0, 0, 0, 0, 0] else [a0, a1, a2, a3, a4, a5])), .d (.bool (rdOk (numV y5)))], []⟩ := by
                  rw [r0]
                  unfold rdOk
                  by_cases h : 48 < (numV y5).length
                  · have : ¬ (numV y5).length ≤ 48 := by omega
                    simp [h, this]
                  · have : (numV y5).length ≤ 48 := by omega
                    simp [h, this, he0]
                have q1 : callN (envG G) F (n + 29) 84 [.d (.nums .u8 m1 (numV z5))] = some ⟨[.d (limbD (if rdOk (numV z5) = true then [b0, b1, b2, b3, b4, b5] else if 48 < (numV z5).length then [0, 0, 0, 0, 0, 0] else [b0, b1, b2, b3, b4, b5])), .d (.bool (rdOk (numV z5)))], []⟩ := by
                  rw [r1]
                  unfold rdOk
                  by_cases h : 48 < (numV z5).length
                  · have : ¬ (numV z5).length ≤ 48 := by omega
                    simp [h, this]
                  · have : (numV z5).length ≤ 48 := by omega
                    simp [h, this, he1]
                clear r0 r1
                rw [he0, he1]
                have pick : ∀ (c : Prop) [Decidable c] (x y : List Int), ∃ z, (if c then x else y) = z := fun c _ x y => ⟨_, rfl⟩
                have six0 : ∃ c0 c1 c2 c3 c4 c5, (if 48 < (numV y5).length then [0, 0, 0, 0, 0, 0] else [a0, a1, a2, a3, a4, a5]) = [c0, c1, c2, c3, c4, c5] := by
                  split
                  · exact ⟨_, _, _, _, _, _, rfl⟩
                  · exact ⟨_, _, _, _, _, _, rfl⟩
                have six1 : ∃ c0 c1 c2 c3 c4 c5, (if 48 < (numV z5).length then [0, 0, 0, 0, 0, 0] else [b0, b1, b2, b3, b4, b5]) = [c0, c1, c2, c3, c4, c5] := by
                  split
                  · exact ⟨_, _, _, _, _, _, rfl⟩
                  · exact ⟨_, _, _, _, _, _, rfl⟩
                obtain ⟨c0, c1, c2, c3, c4, c5, hc⟩ := six0
                obtain ⟨d0, d1, d2, d3, d4, d5, hd⟩ := six1
                rw [hc] at q0
                rw [hd] at q1
                cases t0 : rdOk (numV y5)
                · rw [t0] at q0
                  simp only [Bool.false_and, noSig, sigD, List.map, List.cons_append, List.nil_append]
                  simp only [Bool.false_eq_true, if_false, limbD, List.map] at q0
                  unfold err
                  cases t1 : rdOk (numV z5)
                  · rw [t1] at q1
                    simp only [Bool.false_eq_true, if_false, limbD, List.map] at q1
                    simp [htt, hlin, hreg, reg42, hcall, hcallP, hp, g0, g1, q0, q1]
                  · rw [t1] at q1
                    simp only [if_true, limbD, List.map] at q1
                    simp [htt, hlin, hreg, reg42, hcall, hcallP, hp, g0, g1, q0, q1]
                · rw [t0] at q0
                  simp only [if_true, limbD, List.map] at q0
                  cases t1 : rdOk (numV z5)
                  · rw [t1] at q1
                    simp only [Bool.and_false, noSig, sigD, List.map, List.cons_append, List.nil_append]
                    simp only [Bool.false_eq_true, if_false, limbD, List.map] at q1
                    unfold err
                    simp [htt, hlin, hreg, reg42, hcall, hcallP, hp, g0, g1, q0, q1]
                  · rw [t1] at q1
                    simp only [if_true, limbD, List.map] at q1
                    simp only [Bool.and_self, sigD, List.map, List.cons_append, List.nil_append]
                    simp [htt, hlin, hreg, reg42, hcall, hcallP, hp, g0, g1, q0, q1]
end Go.Proofs.YtjmcgdhekjkjfaaDoor

/- Numbers of bytes: plain. -/
set_option linter.unusedSimpArgs false
set_option linter.unusedVariables false
namespace Go.Proofs.YtjmcgdhekjkjfaaDoor
open Go Go.VM
set_option maxRecDepth 100000
set_option maxHeartbeats 4000000

def sumQ (h : Nat → Int) : Nat → Int
  | 0 => 0
  | n + 1 => sumQ h n + h n * 4294967296 ^ n
theorem vL_range (h : Nat → Int) : ∀ n, vL ((List.range n).map h) = sumQ h n
  | 0 => rfl
  | n + 1 => by
    rw [List.range_succ, List.map_append, vL_append, vL_range h n]
    simp only [List.map_cons, List.map_nil, vL, List.length_map, List.length_range, Int.mul_zero, Int.add_zero, sumQ]
    rw [Int.mul_comm]
def sB (f : Nat → Int) : Nat → Int
  | 0 => 0
  | k + 1 => sB f k + f k * 256 ^ k
theorem sB_congr {f g : Nat → Int} : ∀ n, (∀ k, k < n → f k = g k) → sB f n = sB g n
  | 0, _ => rfl
  | n + 1, h => by simp only [sB, sB_congr n (fun k hk => h k (by omega)), h n (by omega)]
def cutF (b : List Int) (k : Nat) : Int := if k < b.length then b.getD (b.length - 1 - k) 0 else 0
theorem fdig_cut (b : List Int) (q : Nat) : fdig b b.length q = cutF b (4 * q) + cutF b (4 * q + 1) * 256 + cutF b (4 * q + 2) * 65536 + cutF b (4 * q + 3) * 16777216 := by
  unfold fdig fpart cutF
  simp only [Int.reducePow, Nat.add_zero, Int.mul_one]
  split <;> split <;> split <;> split <;> omega
theorem sumQ_cut (b : List Int) : ∀ n, sumQ (fdig b b.length) n = sB (cutF b) (4 * n)
  | 0 => rfl
  | n + 1 => by
    rw [show 4 * (n + 1) = 4 * n + 1 + 1 + 1 + 1 by omega]
    simp only [sB, sumQ, sumQ_cut b n, fdig_cut]
    have e : (4294967296 : Int) ^ n = 256 ^ (4 * n) := by rw [Int.pow_mul]; rfl
    have e1 : (256 : Int) ^ (4 * n + 1) = 256 * 256 ^ (4 * n) := by rw [Int.pow_succ]; exact Int.mul_comm ..
    have e2 : (256 : Int) ^ (4 * n + 1 + 1) = 65536 * 256 ^ (4 * n) := by rw [Int.pow_succ, e1]; omega
    have e3 : (256 : Int) ^ (4 * n + 1 + 1 + 1) = 16777216 * 256 ^ (4 * n) := by rw [Int.pow_succ, e2]; omega
    rw [e, e1, e2, e3]
    generalize (256 : Int) ^ (4 * n) = P
    generalize cutF b (4 * n) = w
    rw [show 4 * n + 1 + 1 = 4 * n + 2 by omega, show 4 * n + 2 + 1 = 4 * n + 3 by omega]
    generalize cutF b (4 * n + 1) = x
    generalize cutF b (4 * n + 2) = y
    generalize cutF b (4 * n + 3) = z
    simp only [Int.add_mul, Int.mul_assoc]
    omega
theorem sB_zero (b : List Int) : ∀ d, sB (cutF b) (b.length + d) = sB (cutF b) b.length
  | 0 => rfl
  | d + 1 => by
    rw [show b.length + (d + 1) = b.length + d + 1 by omega]
    simp only [sB, sB_zero b d]
    have : cutF b (b.length + d) = 0 := by unfold cutF; rw [if_neg (by omega)]
    rw [this]; omega
theorem val_acc : ∀ (t : List Int) (v : Int), val v t = v * 256 ^ t.length + val 0 t
  | [], v => by simp [val]
  | x :: t, v => by
    simp only [val, List.length_cons, Int.zero_mul, Int.zero_add]
    rw [val_acc t (v * 256 + x), val_acc t x, Int.pow_succ, Int.add_mul, Int.mul_assoc, Int.mul_comm 256]
    omega
theorem sB_val : ∀ b : List Int, sB (cutF b) b.length = val 0 b
  | [] => rfl
  | x :: t => by
    have ih := sB_val t
    have h1 : sB (cutF (x :: t)) t.length = sB (cutF t) t.length := sB_congr _ fun k hk => by
      unfold cutF
      rw [if_pos (by simp only [List.length_cons]; omega), if_pos hk]
      have : (x :: t).length - 1 - k = (t.length - 1 - k) + 1 := by simp only [List.length_cons]; omega
      rw [this]
      simp [List.getD]
    have h2 : cutF (x :: t) t.length = x := by
      unfold cutF
      rw [if_pos (by simp)]
      simp
    simp only [List.length_cons, sB, h1, h2, ih, val, Int.zero_mul, Int.zero_add]
    rw [val_acc t x]
    omega
/-- The digits' number is the bytes' number. -/
theorem fromL_val (b : List Int) : vL (fromL b b.length) = val 0 b := by
  unfold fromL
  rw [vL_range, sumQ_cut]
  have h : 4 * (b.length / 4 + 1) = b.length + (4 * (b.length / 4 + 1) - b.length) := by omega
  rw [h, sB_zero, sB_val]
theorem fromL_in {b : List Int} (hb : ∀ c ∈ b, 0 ≤ c ∧ c < 256) (i : Nat) : In32 (fromL b i) := by
  intro x hx
  unfold fromL at hx
  rw [List.mem_map] at hx
  obtain ⟨q, _, rfl⟩ := hx
  exact fdig_in hb i q

theorem val_nonneg {b : List Int} (hb : ∀ c ∈ b, 0 ≤ c ∧ c < 256) : 0 ≤ val 0 b := by
  have := vL_nonneg _ (fromL_in hb b.length)
  rwa [fromL_val] at this

/-- A number that is told as it must be begins with a byte that counts. -/
theorem numV_head {b : List Int} {x y : Int} {t : List Int} (h : numV b = x :: y :: t) (hb : ∀ c ∈ b, 0 ≤ c ∧ c < 256) : 1 ≤ x := by
  unfold numV numB at h
  cases b with
  | nil => simp at h
  | cons z u =>
    have hz := hb z (by simp)
    simp only at h
    split at h
    · simp at h
    · rename_i ys hys
      split at hys
      · cases hys
      · split at hys
        · cases u with
          | nil => simp at hys; subst hys; cases h
          | cons w v =>
            simp only at hys
            split at hys
            · cases hys
            · split at hys
              · cases hys
              · injection hys with hys; subst hys; cases h; omega
        · split at hys
          · cases hys
          · injection hys with hys; subst hys; cases h; omega

theorem groupM_lt : wL groupM < 256 ^ 48 := by
  simp only [groupM, wL]
  omega
theorem long_val {b : List Int} (hb : ∀ c ∈ b, 0 ≤ c ∧ c < 256) (h : 48 < (numV b).length) : wL groupM ≤ val 0 (numV b) := by
  have hn := numV_bytes hb
  rcases hv : numV b with _ | ⟨x, _ | ⟨y, t⟩⟩
  · rw [hv] at h; simp at h
  · rw [hv] at h; simp at h
  · have hx := numV_head hv hb
    rw [hv] at h hn
    have h1 : val 0 (x :: y :: t) = x * 256 ^ (y :: t).length + val 0 (y :: t) := by
      show val (0 * 256 + x) (y :: t) = _
      rw [Int.zero_mul, Int.zero_add, val_acc]
    have h2 := val_nonneg (b := y :: t) (fun c hc => hn c (List.mem_cons_of_mem _ hc))
    have h3 : (256 : Int) ^ 48 ≤ 256 ^ (y :: t).length := by
      simp only [List.length_cons] at h ⊢
      obtain ⟨d, hd⟩ := Nat.exists_eq_add_of_le (show 48 ≤ t.length + 1 by omega)
      rw [hd, Int.pow_add]
      have h4 : (1 : Int) ≤ 256 ^ d := by have : (0 : Int) < 256 ^ d := Int.pow_pos (by omega); omega
      have h5 : (0 : Int) ≤ 256 ^ 48 := Int.pow_nonneg (by omega)
      have h6 := Int.mul_le_mul_of_nonneg_left h4 h5
      omega
    have h4 : (0 : Int) ≤ 256 ^ (y :: t).length := Int.pow_nonneg (by omega)
    have h5 := Int.mul_le_mul_of_nonneg_right hx h4
    have h6 := groupM_lt
    rw [h1]
    omega

/-- The digits of an element's number. -/
def digs (b : List Int) : List Int := trimL (fromL b b.length)
theorem digs_canon {b : List Int} (hb : ∀ c ∈ b, 0 ≤ c ∧ c < 256) : Canon (digs b) := trimL_canon (fromL_in hb b.length)
theorem digs_val (b : List Int) : vL (digs b) = val 0 b := by unfold digs; rw [vL_trim, fromL_val]

theorem rd_digs {b : List Int} (hb : ∀ c ∈ b, 0 ≤ c ∧ c < 256) : rdOk (numV b) = (!decide (digs (numV b) = []) && decide (cmpL (digs (numV b)) nL < 0)) := by
  have hn := numV_bytes hb
  have hc := digs_canon hn
  have h0 := canon_nil hc
  have h1 := cmpL_lt hc nL_canon
  rw [digs_val] at h0 h1
  rw [nL_val] at h1
  unfold rdOk
  by_cases h : (numV b).length ≤ 48
  · obtain ⟨e1, e2⟩ := limbs_ok hn h
    unfold isScalar
    rw [← e1]
    simp only [h, decide_true, Bool.true_and]
    by_cases c0 : val 0 (numV b) = 0
    · simp [c0, h0.2 c0]
    · have c1 : ¬ digs (numV b) = [] := fun h => c0 (h0.1 h)
      by_cases c2 : val 0 (numV b) < wL groupM
      · simp [c0, c1, c2, h1.2 c2]
      · have c3 : ¬ cmpL (digs (numV b)) nL < 0 := fun h => c2 (h1.1 h)
        simp [c0, c1, c2, c3]
  · have hl := long_val hb (by omega)
    have c3 : ¬ cmpL (digs (numV b)) nL < 0 := fun h => by have := h1.1 h; omega
    simp [h, c3]

-- ------------------------------------------------------------ To6

theorem pad_list (r : List Int) (n : Nat) (h : r.length ≤ n) : (List.range n).map (pad r.length fun j => r.getD j 0) = r ++ List.replicate (n - r.length) 0 := by
  apply List.ext_getElem?
  intro i
  rw [List.getElem?_map, List.getElem?_append]
  unfold pad
  rcases Nat.lt_or_ge i n with h1 | h1
  · rw [List.getElem?_range h1]
    simp only [Option.map_some]
    by_cases h2 : i < r.length
    · rw [if_pos h2, show Nat.blt i r.length = true by simpa [Nat.blt_eq] using h2]
      simp [List.getD, h2]
    · rw [if_neg h2, show Nat.blt i r.length = false by simpa [Nat.blt_eq] using h2, List.getElem?_replicate, if_pos (by omega)]
  · rw [List.getElem?_eq_none (by simpa using h1), if_neg (by omega), List.getElem?_replicate, if_neg (by omega)]
    rfl
theorem to6_eq {r : List Int} (hr : In32 r) (k : Nat) : to6 (fun j => r.getD j 0) r.length k = pad r.length (fun j => r.getD j 0) (2 * k) + 4294967296 * pad r.length (fun j => r.getD j 0) (2 * k + 1) ∧
    0 ≤ pad r.length (fun j => r.getD j 0) (2 * k) ∧ pad r.length (fun j => r.getD j 0) (2 * k) < 4294967296 ∧ 0 ≤ pad r.length (fun j => r.getD j 0) (2 * k + 1) ∧ pad r.length (fun j => r.getD j 0) (2 * k + 1) < 4294967296 := by
  have hg : ∀ i, i < r.length → 0 ≤ r.getD i 0 ∧ r.getD i 0 < 4294967296 := fun i hi => by
    have : r.getD i 0 = r[i] := by simp [List.getD, hi]
    rw [this]; exact hr _ (List.getElem_mem hi)
  unfold to6 pad
  by_cases h1 : 2 * k + 1 < r.length
  · have h2 : 2 * k < r.length := by omega
    have a1 := hg _ h1
    have a2 := hg _ h2
    rw [show Nat.blt (2 * k + 1) r.length = true by simpa [Nat.blt_eq] using h1, show Nat.blt (2 * k) r.length = true by simpa [Nat.blt_eq] using h2]
    simp only
    rw [u64_wrap, u64_wrap]
    omega
  · rw [show Nat.blt (2 * k + 1) r.length = false by simpa [Nat.blt_eq] using h1]
    by_cases h2 : 2 * k < r.length
    · have a2 := hg _ h2
      rw [show Nat.blt (2 * k) r.length = true by simpa [Nat.blt_eq] using h2]
      simp only
      omega
    · rw [show Nat.blt (2 * k) r.length = false by simpa [Nat.blt_eq] using h2]
      simp only
      omega
theorem to6_val {r : List Int} (hr : In32 r) (h : r.length ≤ 12) : wL ((List.range 6).map (to6 (fun j => r.getD j 0) r.length)) = vL r ∧ In64 ((List.range 6).map (to6 (fun j => r.getD j 0) r.length)) := by
  have k := to6_eq hr
  have e : vL ((List.range 12).map (pad r.length fun j => r.getD j 0)) = vL r := by
    rw [pad_list r 12 h, vL_append, vL_zeros (List.replicate _ _) (fun x hx => (List.mem_replicate.1 hx).2)]
    omega
  have k0 := k 0; have k1 := k 1; have k2 := k 2; have k3 := k 3; have k4 := k 4; have k5 := k 5
  constructor
  · rw [← e]
    simp only [List.range, List.range.loop, List.map, wL, vL, k0.1, k1.1, k2.1, k3.1, k4.1, k5.1, Nat.reduceMul, Nat.reduceAdd]
    omega
  · intro x hx
    rw [List.mem_map] at hx
    obtain ⟨i, _, rfl⟩ := hx
    have := k i
    omega
theorem canon_len12 {r : List Int} (hc : Canon r) (h : vL r < 256 ^ 48) : r.length ≤ 12 := by
  rcases Nat.lt_or_ge 12 r.length with h1 | h1
  · have h2 := canon_ge hc (fun h0 => by rw [h0] at h1; simp at h1)
    have h3 := powB_le (show 12 ≤ r.length - 1 by omega)
    have h4 : (4294967296 : Int) ^ 12 = 256 ^ 48 := by decide
    omega
  · exact h1
/-- What is read is what is told. -/
theorem to6_limbs {b : List Int} (hb : ∀ c ∈ b, 0 ≤ c ∧ c < 256) (h : rdOk (numV b) = true) : (digs (numV b)).length ≤ 12 ∧ (List.range 6).map (to6 (fun j => (digs (numV b)).getD j 0) (digs (numV b)).length) = limbs (numV b) := by
  have hn := numV_bytes hb
  unfold rdOk at h
  simp only [Bool.and_eq_true, decide_eq_true_eq] at h
  obtain ⟨e1, e2⟩ := limbs_ok hn h.1
  have hs := h.2
  simp only [isScalar, Bool.and_eq_true, decide_eq_true_eq, Bool.not_eq_true'] at hs
  have hg := groupM_lt
  have hc := digs_canon hn
  have hl := canon_len12 hc (by rw [digs_val, e1]; omega)
  obtain ⟨q1, q2⟩ := to6_val hc.1 hl
  refine ⟨hl, wL_inj (by rw [show limbs (numV b) = L6 _ from rfl, L6_len]; simp) q2 e2 ?_⟩
  rw [q1, digs_val, e1]
end Go.Proofs.YtjmcgdhekjkjfaaDoor

/- What is laid for the statements of layer 14; the law's head. -/
-- @@G gEc
set_option linter.unusedSimpArgs false
set_option linter.unusedVariables false
namespace Go.Proofs.YtjmcgdhekjkjfaaDoor
open Go Go.VM
set_option maxRecDepth 100000
set_option maxHeartbeats 4000000

def u64s (l : List Int) : List D := l.map (.int .u64)
def primeC : List D := u64s [4294967295, 18446744069414584320, 18446744073709551614, 18446744073709551615, 18446744073709551615, 18446744073709551615, 4294967297, 18446744065119617025, 8589934592, 18446744065119617024, 8589934592, 1, 0]
def curveBC : List D := u64s [581395848458481100, 17809957346689692396, 8643006485390950958, 16372638458395724514, 13126622871277412500, 14774077593024970745]
def oneC : List D := u64s [18446744069414584321, 4294967295, 1, 0, 0, 0]
def baseC : List D := u64s [4203087948775033527, 6125724927633205612, 6482722621138151992, 7934563412932533144, 10282218360005504372, 12288012358878168375, 8809917716911230559, 747793036959711645, 16850834916486723776, 17938995913990739068, 6745997240412855337, 3897828414440483951] ++ [.bool false]
def dataE (g : Nat) : Option (List D) := match Nat.beq g 0 with
  | true => some groupC
  | false => match Nat.beq g 7 with
    | true => some primeC
    | false => match Nat.beq g 4 with
      | true => some primeC
      | false => match Nat.beq g 6 with
        | true => some curveBC
        | false => match Nat.beq g 3 with
          | true => some oneC
          | false => match Nat.beq g 2 with
            | true => some baseC
            | false => none
def extE (f : FuncId) (args : List V) : Option Ret := match Nat.beq f 16 with
  | true => isX args
  | false => match Nat.beq f 145 with
    | true => addX args
    | false => match Nat.beq f 128 with
      | true => subX args
      | false => none
noncomputable def gEc : GE := { glob := fun g => match Nat.beq g 1 with | true => some errT | false => dataE g, ext := extE }

def gxL : List Int := [4203087948775033527, 6125724927633205612, 6482722621138151992, 7934563412932533144, 10282218360005504372, 12288012358878168375]
def gyL : List Int := [8809917716911230559, 747793036959711645, 16850834916486723776, 17938995913990739068, 6745997240412855337, 3897828414440483951]
def gxxL : List Int := [16294626064404623385, 10585817920061350536, 18435557229683883882, 14066213651302547681, 7433228009852402719, 318340665191803977]
def gxxxL : List Int := [15484624098767883078, 4725004713607797003, 14790340010325447495, 17177273893141795440, 17681050054996123159, 3029276638567288499]
def gtxL : List Int := [12609263842030133286, 18377174787194584132, 1001423789704904361, 5356946165088047817, 12399911006306961501, 18417293002924953510]
def gyyL : List Int := [5939436306316482062, 639503669696589412, 14010727913885342711, 13558044759818846393, 16273868750091453139, 15970881714101626609]
def gbL : List Int := [3064076045283764975, 14291673747578343837, 221811693264799578, 1737717031765098770, 10992729701402291481, 12912154004749740004]
def gs1L : List Int := [2875360261032717087, 4794573995827797191, 13788916220620543132, 11820327728053747623, 5281139048689161658, 3058727709351886605]
def threeL : List Int := [3, 0, 0, 0, 0, 0]
def pTwoL : List Int := [18446744065119617025, 8589934592, 18446744065119617024, 8589934592, 1, 0]
def gxRL : List Int := [4454189113653900584, 2369870743683386936, 9771750146904378734, 7229551204834152191, 9308930686126579243, 5564951339003155731]
def gxxRL : List Int := [4501802243772798096, 12646221062029792798, 5240004169776769886, 979062090563314096, 11954637948085912160, 14054331213410354807]
def threeRL : List Int := [18446744060824649731, 12884901887, 3, 0, 0, 0]
def gyRL : List Int := [2523209505731486974, 11655219901025790380, 10064955099576512592, 14322381509056856025, 15960759442596276288, 3132442392059561449]
def gBL : List Int := [581395848458481100, 17809957346689692396, 8643006485390950958, 16372638458395724514, 13126622871277412500, 14774077593024970745]
def oneL : List Int := [1, 0, 0, 0, 0, 0]
def primeD : D := .agg primeC
end Go.Proofs.YtjmcgdhekjkjfaaDoor

/- Products of the base point's numbers, by the kernel: some. -/
set_option linter.unusedSimpArgs false
set_option linter.unusedVariables false
namespace Go.Proofs.YtjmcgdhekjkjfaaDoor
open Go Go.VM
set_option maxRecDepth 100000
set_option maxHeartbeats 4000000

theorem pr_x : callN (envG gEc) 400 12 127 [.d (limbD gxL), .d (limbD pTwoL), .d primeD] = some ⟨[.d (limbD gxRL)], []⟩ := by kernel_rfl
theorem pr_xx : callN (envG gEc) 400 12 127 [.d (limbD gxRL), .d (limbD gxL), .d primeD] = some ⟨[.d (limbD gxxL)], []⟩ := by kernel_rfl
end Go.Proofs.YtjmcgdhekjkjfaaDoor

/- Products of the base point's numbers, by the kernel: some. -/
set_option linter.unusedSimpArgs false
set_option linter.unusedVariables false
namespace Go.Proofs.YtjmcgdhekjkjfaaDoor
open Go Go.VM
set_option maxRecDepth 100000
set_option maxHeartbeats 4000000

theorem pr_xx2 : callN (envG gEc) 400 12 127 [.d (limbD gxxL), .d (limbD pTwoL), .d primeD] = some ⟨[.d (limbD gxxRL)], []⟩ := by kernel_rfl
theorem pr_xxx : callN (envG gEc) 400 12 127 [.d (limbD gxxRL), .d (limbD gxL), .d primeD] = some ⟨[.d (limbD gxxxL)], []⟩ := by kernel_rfl
end Go.Proofs.YtjmcgdhekjkjfaaDoor

/- Products of the base point's numbers, by the kernel: some. -/
set_option linter.unusedSimpArgs false
set_option linter.unusedVariables false
namespace Go.Proofs.YtjmcgdhekjkjfaaDoor
open Go Go.VM
set_option maxRecDepth 100000
set_option maxHeartbeats 4000000

theorem pr_t : callN (envG gEc) 400 12 127 [.d (limbD threeL), .d (limbD pTwoL), .d primeD] = some ⟨[.d (limbD threeRL)], []⟩ := by kernel_rfl
theorem pr_tx : callN (envG gEc) 400 12 127 [.d (limbD threeRL), .d (limbD gxL), .d primeD] = some ⟨[.d (limbD gtxL)], []⟩ := by kernel_rfl
end Go.Proofs.YtjmcgdhekjkjfaaDoor
