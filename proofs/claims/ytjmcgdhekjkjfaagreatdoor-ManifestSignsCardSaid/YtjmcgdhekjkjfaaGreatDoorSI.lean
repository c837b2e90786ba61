/- The reference's numbers: From. -/
import Derived.Test.YtjmcgdhekjkjfaaGreatDoorSH
import Derived.Test.YtjmcgdhekjkjfaaGreatDoorVMU
import Derived.Test.YtjmcgdhekjkjfaaGreatDoorSF
import Derived.Test.YtjmcgdhekjkjfaaGreatDoorSG
import Derived.Test.YtjmcgdhekjkjfaaGreatDoorVMS
set_option linter.unusedSimpArgs false
set_option linter.unusedVariables false
namespace Go.Proofs.YtjmcgdhekjkjfaaGreatDoor
open Go Go.VM
variable {G : GE}
set_option maxRecDepth 100000
set_option maxHeartbeats 4000000
def mulV : Int → Nat → Int
  | v, 0 => v
  | v, d + 1 => mulV (IntKind.u64.wrap (v * 256)) d
def fpart (b : List Int) (i q j : Nat) : Int := if 4 * q + j < i then b.getD (b.length - 1 - (4 * q + j)) 0 * 256 ^ j else 0
def fdig (b : List Int) (i q : Nat) : Int := fpart b i q 0 + fpart b i q 1 + fpart b i q 2 + fpart b i q 3
def fromL (b : List Int) (i : Nat) : List Int := (List.range (b.length / 4 + 1)).map (fdig b i)
theorem getD_byte {b : List Int} (hb : ∀ c ∈ b, 0 ≤ c ∧ c < 256) (i : Nat) : 0 ≤ b.getD i 0 ∧ b.getD i 0 < 256 := by
  rcases Nat.lt_or_ge i b.length with h1 | h1
  · have : b.getD i 0 = b[i] := by simp [List.getD, h1]
    rw [this]
    exact hb _ (List.getElem_mem h1)
  · have : b.getD i 0 = 0 := by simp [List.getD, List.getElem?_eq_none h1]
    omega
theorem fdig_in {b : List Int} (hb : ∀ c ∈ b, 0 ≤ c ∧ c < 256) (i q : Nat) : 0 ≤ fdig b i q ∧ fdig b i q < 4294967296 := by
  have h0 := getD_byte hb (b.length - 1 - (4 * q + 0))
  have h1 := getD_byte hb (b.length - 1 - (4 * q + 1))
  have h2 := getD_byte hb (b.length - 1 - (4 * q + 2))
  have h3 := getD_byte hb (b.length - 1 - (4 * q + 3))
  unfold fdig fpart
  simp only [Int.reducePow]
  split <;> split <;> split <;> split <;> omega
end Go.Proofs.YtjmcgdhekjkjfaaGreatDoor
set_option linter.unusedSimpArgs false
set_option linter.unusedVariables false
namespace Go.Proofs.YtjmcgdhekjkjfaaGreatDoor
open Go Go.VM
variable {G : GE}
set_option maxRecDepth 100000
set_option maxHeartbeats 4000000
end Go.Proofs.YtjmcgdhekjkjfaaGreatDoor
set_option linter.unusedSimpArgs false
set_option linter.unusedVariables false
namespace Go.Proofs.YtjmcgdhekjkjfaaGreatDoor
open Go Go.VM
variable {G : GE}
set_option maxRecDepth 100000
set_option maxHeartbeats 4000000
def numV (b : List Int) : List Int := match numB b with | .inl _ => [] | .inr ys => ys
def numOk (b : List Int) : Bool := match numB b with | .inl _ => false | .inr _ => true
theorem t_digits (F n : Nat) (x1 x2 : Int) (x3 x4 : Bool) (x5 : List Int) (x6 : Bool) (x7 : List Tlv) (hn : x4 = true → x5 = []) (hx : x5.length ≤ 140737488355328) :
    ∃ nl, callN (envG G) F (n+3) 62 [.d (.agg [.int .i64 x1, .int .i64 x2, .bool x3, .nums .u8 x4 x5, .sl 5 x6 (Tlv.cellsL x7)])] =
      some (if x1 = 0 ∧ x2 = 2 ∧ x3 = false then ⟨[.d (.nums .u8 nl (numV x5)), .d (.bool (numOk x5))], []⟩ else ⟨[.d (.nums .u8 true []), .d (.bool false)], []⟩) ∧ (nl = true → numV x5 = []) := by
  have k := t_Number (G := G) F n x4 x5 hn hx
  cases hb : numB x5 with
  | inl e =>
    refine ⟨true, ?_, fun _ => by simp [numV, hb]⟩
    rw [hb] at k
    simp only [numV, numOk, hb]
    rw [callN_run (fn := Tryz.f62) rfl rfl rfl (by simp [Tryz.ntmps62])]
    generalize hC : (envG G).ctx 62 (callN (envG G) F (n+2)) (callP (envG G) F (n+2)) = C
    have htt : C.tt = (envG G).tt := by rw [← hC]; rfl
    have hlin : C.lin = [] := by rw [← hC]; rfl
    have hreg : C.reg = reg62 := by rw [← hC]; rfl
    have hcall : C.call = callN (envG G) F (n+2) := by rw [← hC]; rfl
    have hcallP : C.callP = callP (envG G) F (n+2) := by rw [← hC]; rfl
    have hlv_200004 : C.live 200004 = [] := by rw [← hC]; rfl
    have hlv_250004 : C.live 250004 = [] := by rw [← hC]; rfl
    clear hC
    unfold err at k
    by_cases h1 : x1 = 0
    · by_cases h2 : x2 = 2
      · cases x3
        · simp [htt, hlin, hreg, reg62, hcall, hcallP, hlv_200004, hlv_250004, h1, h2, k]
        · simp [htt, hlin, hreg, reg62, hcall, hcallP, hlv_200004, hlv_250004, h1, h2, k]
      · simp [htt, hlin, hreg, reg62, hcall, hcallP, hlv_200004, hlv_250004, h1, h2, k]
    · simp [htt, hlin, hreg, reg62, hcall, hcallP, hlv_200004, hlv_250004, h1, k]
  | inr ys =>
    refine ⟨false, ?_, fun h => by cases h⟩
    rw [hb] at k
    simp only [numV, numOk, hb]
    rw [callN_run (fn := Tryz.f62) rfl rfl rfl (by simp [Tryz.ntmps62])]
    generalize hC : (envG G).ctx 62 (callN (envG G) F (n+2)) (callP (envG G) F (n+2)) = C
    have htt : C.tt = (envG G).tt := by rw [← hC]; rfl
    have hlin : C.lin = [] := by rw [← hC]; rfl
    have hreg : C.reg = reg62 := by rw [← hC]; rfl
    have hcall : C.call = callN (envG G) F (n+2) := by rw [← hC]; rfl
    have hcallP : C.callP = callP (envG G) F (n+2) := by rw [← hC]; rfl
    have hlv_200004 : C.live 200004 = [] := by rw [← hC]; rfl
    have hlv_250004 : C.live 250004 = [] := by rw [← hC]; rfl
    clear hC
    by_cases h1 : x1 = 0
    · by_cases h2 : x2 = 2
      · cases x3
        · simp [htt, hlin, hreg, reg62, hcall, hcallP, hlv_200004, hlv_250004, h1, h2, k]
        · simp [htt, hlin, hreg, reg62, hcall, hcallP, hlv_200004, hlv_250004, h1, h2, k]
      · simp [htt, hlin, hreg, reg62, hcall, hcallP, hlv_200004, hlv_250004, h1, h2, k]
    · simp [htt, hlin, hreg, reg62, hcall, hcallP, hlv_200004, hlv_250004, h1, k]
def limbs (b : List Int) : List Int := L6 fun i => (List.replicate (48 - b.length) 0 ++ b).getD i 0
theorem range_getD (l : List Int) : (List.range l.length).map (fun i => l.getD i 0) = l := by
  apply List.ext_getElem?
  intro k
  rw [List.getElem?_map]
  rcases Nat.lt_or_ge k l.length with h | h
  · rw [List.getElem?_range h]
    simp [List.getD, h]
  · rw [List.getElem?_eq_none (by simpa using h), List.getElem?_eq_none h]
    rfl
theorem zeros_len {b : List Int} (h : b.length ≤ 48) : (List.replicate (48 - b.length) (0 : Int) ++ b).length = 48 := by simp; omega
theorem limbs_ok {b : List Int} (hb : ∀ c ∈ b, 0 ≤ c ∧ c < 256) (h : b.length ≤ 48) : val 0 b = wL (limbs b) ∧ In64 (limbs b) := by
  have hz : ∀ c ∈ List.replicate (48 - b.length) (0 : Int) ++ b, 0 ≤ c ∧ c < 256 := by
    intro c hc
    rw [List.mem_append, List.mem_replicate] at hc
    rcases hc with ⟨_, rfl⟩ | hc
    · omega
    · exact hb c hc
  have := val_L6 (fun i => (List.replicate (48 - b.length) 0 ++ b).getD i 0) (fun i => getD_byte hz i)
  have e := range_getD (List.replicate (48 - b.length) (0 : Int) ++ b)
  rw [zeros_len h] at e
  rw [e] at this
  refine ⟨?_, this.2⟩
  rw [← show _ = wL (limbs b) from this.1]
  have : ∀ k, val 0 (List.replicate k (0 : Int) ++ b) = val 0 b := by
    intro k
    induction k with
    | zero => rfl
    | succ k ih => simpa [List.replicate_succ, val] using ih
  exact (this _).symm
theorem t_limbFrom (F n : Nat) (hF : 60 ≤ F) (b : List Int) (h : b.length = 48) : callN (envG G) F (n+3) 82 [.d (.nums .u8 false b)] = some ⟨[.d (limbD (L6 fun i => b.getD i 0)), .d .nilifc], []⟩ := by
  have k := callN_mono hF (show 3 ≤ n + 3 by omega) (run_From (G := G) (fun i => b.getD i 0))
  have e := range_getD b
  rw [h] at e
  rw [e] at k
  exact k
theorem L6_len (g : Nat → Int) : (L6 g).length = 6 := by simp [L6]
theorem six {l : List Int} (h : l.length = 6) : ∃ a b c d e f, l = [a, b, c, d, e, f] := by
  rcases l with _ | ⟨a, _ | ⟨b, _ | ⟨c, _ | ⟨d, _ | ⟨e, _ | ⟨f, _ | ⟨g, t⟩⟩⟩⟩⟩⟩⟩ <;> simp at h
  exact ⟨a, b, c, d, e, f, rfl⟩
theorem t_read (hK : SubK G) (hg : GroupG G) (F n : Nat) (hF : 60 ≤ F) (nl : Bool) (b : List Int) (hnl : nl = true → b = []) (hb : ∀ c ∈ b, 0 ≤ c ∧ c < 256) (hl : b.length ≤ 140737488355327) :
    callN (envG G) F (n+5) 63 [.d (.nums .u8 nl b)] = some (if 48 < b.length then ⟨[.d (limbD [0, 0, 0, 0, 0, 0]), .d (.bool false)], []⟩ else ⟨[.d (limbD (limbs b)), .d (.bool (isScalar (limbs b)))], []⟩) := by
  by_cases h : 48 < b.length
  · have e1 : (48 : Int) < b.length := by omega
    rw [if_pos h]
    rw [callN_run (fn := Tryz.f63) rfl rfl rfl (by simp [Tryz.ntmps63])]
    generalize hC : (envG G).ctx 63 (callN (envG G) F (n+4)) (callP (envG G) F (n+4)) = C
    have htt : C.tt = (envG G).tt := by rw [← hC]; rfl
    have hlin : C.lin = [26, 3, 14] := by rw [← hC]; rfl
    have hreg : C.reg = reg63 := by rw [← hC]; rfl
    have hcall : C.call = callN (envG G) F (n+4) := by rw [← hC]; rfl
    have hcallP : C.callP = callP (envG G) F (n+4) := by rw [← hC]; rfl
    have hlv_200004 : C.live 200004 = [4, 7] := by rw [← hC]; rfl
    have hlv_250004 : C.live 250004 = [] := by rw [← hC]; rfl
    have hlv_300004 : C.live 300004 = [2] := by rw [← hC]; rfl
    clear hC
    simp only [limbD, List.map]
    simp [htt, hlin, hreg, reg63, hcall, hcallP, hlv_200004, hlv_250004, hlv_300004, e1]
  · rw [if_neg h]
    have h2 : b.length ≤ 48 := by omega
    have hz := zeros_len h2
    have k1 := t_limbFrom (G := G) F (n+1) hF (List.replicate (48 - b.length) 0 ++ b) hz
    obtain ⟨_, hin⟩ := limbs_ok hb h2
    obtain ⟨a0, a1, a2, a3, a4, a5, he⟩ := six (L6_len fun i => (List.replicate (48 - b.length) 0 ++ b).getD i 0)
    have k2 := t_eScalar (G := G) hK hg F n (by omega) a0 a1 a2 a3 a4 a5 (by rw [← he]; exact hin)
    unfold limbs at *
    rw [he] at k1 hin ⊢
    clear hin he hK hg
    generalize isScalar [a0, a1, a2, a3, a4, a5] = sc at *
    simp only [limbD, List.map] at *
    obtain ⟨p, hp⟩ : ∃ p, p = 48 - b.length := ⟨_, rfl⟩
    rw [← hp] at k1 hz
    have e1 : ¬ (48 : Int) < b.length := by omega
    have e2 : (48 : Int) - b.length = (p : Int) := by omega
    have e3 : (p : Int) ≤ 9223372036854775807 := by omega
    have e4 : (-9223372036854775808 : Int) ≤ p := by omega
    have e5 : (p : Int) ≤ 281474976710656 := by omega
    have e6 : p + b.length ≤ 140737488355328 := by omega
    rw [callN_run (fn := Tryz.f63) rfl rfl rfl (by simp [Tryz.ntmps63])]
    generalize hC : (envG G).ctx 63 (callN (envG G) F (n+4)) (callP (envG G) F (n+4)) = C
    have htt : C.tt = (envG G).tt := by rw [← hC]; rfl
    have hlin : C.lin = [26, 3, 14] := by rw [← hC]; rfl
    have hreg : C.reg = reg63 := by rw [← hC]; rfl
    have hcall : C.call = callN (envG G) F (n+4) := by rw [← hC]; rfl
    have hcallP : C.callP = callP (envG G) F (n+4) := by rw [← hC]; rfl
    have hlv_200004 : C.live 200004 = [4, 7] := by rw [← hC]; rfl
    have hlv_250004 : C.live 250004 = [] := by rw [← hC]; rfl
    have hlv_300004 : C.live 300004 = [2] := by rw [← hC]; rfl
    clear hC
    simp [htt, hlin, hreg, reg63, hcall, hcallP, hlv_200004, hlv_250004, hlv_300004, e1, e2, e3, e4, e5, e6, k1, k2]
end Go.Proofs.YtjmcgdhekjkjfaaGreatDoor
set_option linter.unusedSimpArgs false
set_option linter.unusedVariables false
namespace Go.Proofs.YtjmcgdhekjkjfaaGreatDoor
open Go Go.VM
variable {G : GE}
set_option maxRecDepth 100000
set_option maxHeartbeats 16000000
def Tlv.isSmall : Tlv → Bool
  | .mk x1 x2 x3 _ x5 _ _ => decide (x1 = 0 ∧ x2 = 2 ∧ x3 = false) && smallOk x5
def Tlv.valS : Tlv → Int
  | .mk _ _ _ _ x5 _ _ => smallV x5
def Tlv.plainOk : Tlv → Prop
  | .mk _ _ _ x4 x5 _ _ => (x4 = true → x5 = []) ∧ x5.length ≤ 140737488355327 ∧ ∀ x ∈ x5, 0 ≤ x ∧ x < 256
def zeroM : Blk := .cells false [.d (.int .i64 0), .d (.int .i64 0), .d (.int .i64 0), .d (.int .i64 0), .d (.nums .u8 true []), .d (.nums .u8 true []), .d (.nums .u8 true [])]
def fourP : Blk := .cells false [.ptr 2 0, .ptr 2 1, .ptr 2 2, .ptr 2 3]
def tlvK (p0 p1 p2 p3 : D) (x6 : Bool) (x7 : List Tlv) : Blk := .cells false [.d p0, .d p1, .d p2, .d p3, .d (.sl 5 x6 (Tlv.cellsL x7))]
def zeroMD : D := .agg [.int .i64 0, .int .i64 0, .int .i64 0, .int .i64 0, .nums .u8 true [], .nums .u8 true [], .nums .u8 true []]
def threeP : Blk := .cells false [.ptr 2 4, .ptr 2 5, .ptr 2 6]
def Tlv.isBytes (n : Nat) : Tlv → Bool
  | .mk x1 x2 x3 _ x5 _ _ => decide (x1 = 0 ∧ x2 = 4 ∧ x3 = false ∧ x5.length = n)
def Tlv.bodyD : Tlv → D
  | .mk _ _ _ x4 x5 _ _ => .nums .u8 x4 x5
def Tlv.body : Tlv → List Int
  | .mk _ _ _ _ x5 _ _ => x5
def Tlv.bnil : Tlv → Bool
  | .mk _ _ _ x4 _ _ _ => x4
end Go.Proofs.YtjmcgdhekjkjfaaGreatDoor
set_option linter.unusedSimpArgs false
set_option linter.unusedVariables false
namespace Go.Proofs.YtjmcgdhekjkjfaaGreatDoor
open Go Go.VM
variable {G : GE}
set_option maxRecDepth 100000
set_option maxHeartbeats 4000000
mutual
def Tlv.nilOk : Tlv → Prop
  | .mk _ _ _ bn b kn ks => (bn = true → b = []) ∧ (kn = true → ks = []) ∧ Tlv.nilOkL ks
def Tlv.nilOkL : List Tlv → Prop
  | [] => True
  | x :: l => x.nilOk ∧ Tlv.nilOkL l
end
theorem nilOk_mem {x : Tlv} : ∀ {l : List Tlv}, Tlv.nilOkL l → x ∈ l → x.nilOk
  | y :: l, hf, h => by
    simp only [Tlv.nilOkL] at hf
    rcases List.mem_cons.1 h with rfl | h
    · exact hf.1
    · exact nilOk_mem hf.2 h
theorem kidsB_nil {g : Nat → Nat → Res (Tlv × Nat)} (hg : ∀ i t x nx, g i t = .ok (x, nx) → x.nilOk) : ∀ (k fr to : Nat) (l : List Tlv), kidsB g k fr to = .ok l → Tlv.nilOkL l
  | 0, fr, to, l, h => by simp only [kidsB] at h; injection h with h; subst h; trivial
  | k + 1, fr, to, l, h => by
    simp only [kidsB] at h
    split at h
    · split at h
      · cases h
      · rename_i x nx h1
        split at h
        · cases h
        · rename_i l' h2
          injection h with h; subst h
          exact ⟨hg _ _ _ _ h1, kidsB_nil hg k _ _ _ h2⟩
    · injection h with h; subst h; trivial
theorem elemB_nil {b : List Int} : ∀ (d i stop : Nat) (x : Tlv) (nx : Nat), elemB b d i stop = .ok (x, nx) → x.nilOk
  | 0, i, stop, x, nx, h => by cases h
  | d + 1, i, stop, x, nx, h => by
    simp only [elemB] at h
    split at h
    · cases h
    split at h
    · cases h
    split at h
    · cases h
    split at h
    · split at h
      · cases h
      · rename_i l hl
        injection h with h; injection h with h1 h2; subst h1
        refine ⟨fun _ => rfl, fun h => ?_, kidsB_nil (fun i t x nx h => elemB_nil d i t x nx h) _ _ _ _ hl⟩
        cases l with
        | nil => rfl
        | cons a l => cases h
    · injection h with h; injection h with h1 h2; subst h1
      exact ⟨fun h => (by cases h), fun _ => rfl, trivial⟩
theorem parseB_nil {b : List Int} {x : Tlv} (h : parseB b = .ok x) : x.nilOk := by
  unfold parseB at h
  split at h
  · cases h
  split at h
  · cases h
  rename_i he
  split at h
  · cases h
  · injection h with h; subst h; exact elemB_nil _ _ _ _ _ he
def Tlv.kids : Tlv → List Tlv
  | .mk _ _ _ _ _ _ ks => ks
theorem weight_mem {x : Tlv} {l : List Tlv} (h : x ∈ l) : x.weight ≤ Tlv.weightL l := weightL_mem h
theorem plainOk_of {x : Tlv} {W : Nat} (h1 : x.nilOk) (h2 : x.bytesOk) (h3 : x.weight ≤ W) (hW : W ≤ 1048576) : x.plainOk := by
  obtain ⟨x1, x2, x3, x4, x5, x6, x7⟩ := x
  simp only [Tlv.weight] at h3
  exact ⟨h1.1, by omega, h2.1⟩
def Tlv.man : Tlv → Option D
  | .mk x1 x2 x3 _ _ _ [k0, k1, k2, k3, k4, k5, k6] =>
    if x1 = 0 ∧ x2 = 16 ∧ x3 = true ∧ (k0.isSmall && k1.isSmall && k2.isSmall && k3.isSmall) = true ∧ (k4.isBytes 12 && k5.isBytes 145 && k6.isBytes 48) = true then
      some (.agg [.int .i64 k0.valS, .int .i64 k1.valS, .int .i64 k2.valS, .int .i64 k3.valS, k4.bodyD, k5.bodyD, k6.bodyD]) else none
  | _ => none
def decodeV : Res Tlv → List V
  | .bad c p => [.d zeroMD, .d (atD c p)]
  | .ok x => match x.man with
    | some d => [.d d, .d .nilifc]
    | none => [.d zeroMD, .d (err 7)]
end Go.Proofs.YtjmcgdhekjkjfaaGreatDoor
