/- Elements as trees, and what is said of them: no program in sight. -/
import Derived.Test.YtjmcgdhekjkjfaaDoorSA
import Derived.Test.YtjmcgdhekjkjfaaDoorVMU
import Derived.Test.YtjmcgdhekjkjfaaDoorVMS
import Derived.Test.YtjmcgdhekjkjfaaDoorRows
import Derived.WalkKit
import Derived.ProofKit
import Derived.OpenShut
import Derived.ShutString
import Derived.ChangeOld
import Derived.ChangeSame
import Derived.ChangeVars
import Derived.JoinedOf
import Derived.Below
import Derived.SizedLaws
import Derived.LaidLaws
import Derived.LaidHandle
import Derived.Stop.Joined
import Derived.Lay
namespace Go.Proofs.YtjmcgdhekjkjfaaDoor
open Go Go.VM
set_option linter.unusedSimpArgs false
set_option linter.unusedVariables false
theorem at_of_drop {α : Type} {l : List α} {i : Nat} {p : α} {t : List α} (h : l.drop i = p :: t) : l[i]? = some p := by
  have : (l.drop i)[0]? = some p := by rw [h]; rfl
  simpa using this
theorem drop_succ {α : Type} {l : List α} {i : Nat} {p : α} {t : List α} (h : l.drop i = p :: t) : l.drop (i + 1) = t ∧ i < l.length := by
  refine ⟨by rw [← List.drop_drop, h]; rfl, ?_⟩
  rcases Nat.lt_or_ge i l.length with h1 | h1
  · exact h1
  · rw [List.drop_eq_nil_of_le h1] at h; cases h
theorem drop_nil {α : Type} {l : List α} {i : Nat} (h : l.drop i = []) : l.length ≤ i := by simpa using h
inductive Tlv where
  | mk (cls tag : Int) (made bnil : Bool) (body : List Int) (knil : Bool) (kids : List Tlv)
mutual
def Tlv.cells : Tlv → List D
  | .mk c t m bn b kn ks => [.int .i64 c, .int .i64 t, .bool m, .nums .u8 bn b, .sl 5 kn (Tlv.cellsL ks)]
def Tlv.cellsL : List Tlv → List (List D)
  | [] => []
  | x :: l => x.cells :: Tlv.cellsL l
end
mutual
def Tlv.same : Tlv → Tlv → Bool
  | .mk c t m _ b _ ks, .mk c' t' m' _ b' _ ks' => decide (c = c' ∧ t = t' ∧ m = m' ∧ b = b' ∧ ks.length = ks'.length) && Tlv.sameL ks ks'
def Tlv.sameL : List Tlv → List Tlv → Bool
  | x :: l, y :: l' => x.same y && Tlv.sameL l l'
  | _, _ => true
end
mutual
def Tlv.depth : Tlv → Nat
  | .mk _ _ _ _ _ _ ks => Tlv.depthL ks + 1
def Tlv.depthL : List Tlv → Nat
  | [] => 0
  | x :: l => max x.depth (Tlv.depthL l)
end
mutual
def Tlv.fits (F : Nat) : Tlv → Prop
  | .mk _ _ _ _ _ _ ks => ks.length < F ∧ Tlv.fitsL F ks
def Tlv.fitsL (F : Nat) : List Tlv → Prop
  | [] => True
  | x :: l => x.fits F ∧ Tlv.fitsL F l
end
theorem cellsL_len : ∀ l : List Tlv, (Tlv.cellsL l).length = l.length
  | [] => rfl
  | x :: l => by simp [Tlv.cellsL, cellsL_len l]
theorem cellsL_map : ∀ l : List Tlv, Tlv.cellsL l = l.map Tlv.cells
  | [] => rfl
  | x :: l => by simp [Tlv.cellsL, cellsL_map l]
theorem cellsL_at {l : List Tlv} {i : Nat} {x : Tlv} {t : List Tlv} (h : l.drop i = x :: t) : (Tlv.cellsL l)[i]? = some x.cells := by
  rw [cellsL_map, List.getElem?_map, at_of_drop h]; rfl
theorem depthL_mem {x : Tlv} : ∀ {l : List Tlv}, x ∈ l → x.depth ≤ Tlv.depthL l
  | y :: l, h => by
    simp only [Tlv.depthL]
    rcases List.mem_cons.1 h with rfl | h
    · omega
    · have := depthL_mem h; omega
theorem fitsL_mem {F : Nat} {x : Tlv} : ∀ {l : List Tlv}, Tlv.fitsL F l → x ∈ l → x.fits F
  | y :: l, hf, h => by
    simp only [Tlv.fitsL] at hf
    rcases List.mem_cons.1 h with rfl | h
    · exact hf.1
    · exact fitsL_mem hf.2 h
theorem cells_five (x : Tlv) : x.cells.length = 5 := by cases x; rfl
mutual
def Tlv.width (B : Nat) : Tlv → Prop
  | .mk _ _ _ _ b _ ks => b.length ≤ B ∧ ks.length ≤ B ∧ Tlv.widthL B ks
def Tlv.widthL (B : Nat) : List Tlv → Prop
  | [] => True
  | x :: l => x.width B ∧ Tlv.widthL B l
end
theorem widthL_mem {B : Nat} {x : Tlv} : ∀ {l : List Tlv}, Tlv.widthL B l → x ∈ l → x.width B
  | y :: l, hf, h => by
    simp only [Tlv.widthL] at hf
    rcases List.mem_cons.1 h with rfl | h
    · exact hf.1
    · exact widthL_mem hf.2 h
mutual
def Tlv.light : Nat → Tlv → Int → Int
  | 0, _, _ => -1
  | d + 1, .mk _ _ _ _ b _ ks, left => if left - 1 - b.length < 0 then -1 else Tlv.lightL d ks (left - 1 - b.length)
def Tlv.lightL : Nat → List Tlv → Int → Int
  | _, [], left => left
  | d, x :: l, left => if x.light d left < 0 then -1 else Tlv.lightL d l (x.light d left)
end
mutual
theorem light_le : ∀ (d : Nat) (x : Tlv) (left : Int), -1 ≤ x.light d left ∧ (0 ≤ left → x.light d left ≤ left)
  | 0, x, left => by simp [Tlv.light]; omega
  | d + 1, .mk _ _ _ _ b _ ks, left => by
    simp only [Tlv.light]
    split
    · omega
    · have := lightL_le d ks (left - 1 - b.length) (by omega)
      omega
theorem lightL_le : ∀ (d : Nat) (l : List Tlv) (left : Int), 0 ≤ left → -1 ≤ Tlv.lightL d l left ∧ Tlv.lightL d l left ≤ left
  | d, [], left, h => by simp [Tlv.lightL]; omega
  | d, x :: l, left, h => by
    simp only [Tlv.lightL]
    have h1 := light_le d x left
    split
    · omega
    · have := lightL_le d l (x.light d left) (by omega)
      omega
end
mutual
def Tlv.fine : Tlv → Bool
  | .mk c t m _ b _ ks => decide (0 ≤ c ∧ c ≤ 3 ∧ 0 ≤ t ∧ t ≤ 30 ∧ (m = true → b = []) ∧ (m = false → ks = [])) && Tlv.fineL ks
def Tlv.fineL : List Tlv → Bool
  | [] => true
  | x :: l => x.fine && Tlv.fineL l
end
mutual
def Tlv.weight : Tlv → Nat
  | .mk _ _ _ _ b _ ks => 1 + b.length + Tlv.weightL ks
def Tlv.weightL : List Tlv → Nat
  | [] => 0
  | x :: l => x.weight + Tlv.weightL l
end
mutual
theorem light_weight : ∀ (d : Nat) (x : Tlv) (left : Int), 0 ≤ x.light d left → x.light d left = left - x.weight ∧ x.depth ≤ d
  | 0, x, left, h => by simp [Tlv.light] at h
  | d + 1, .mk _ _ _ _ b _ ks, left, h => by
    simp only [Tlv.light] at h ⊢
    split at h
    · omega
    · rename_i hn
      rw [if_neg hn]
      have := lightL_weight d ks (left - 1 - b.length) (by omega) h
      simp only [Tlv.weight, Tlv.depth]
      omega
theorem lightL_weight : ∀ (d : Nat) (l : List Tlv) (left : Int), 0 ≤ left → 0 ≤ Tlv.lightL d l left → Tlv.lightL d l left = left - Tlv.weightL l ∧ Tlv.depthL l ≤ d
  | d, [], left, h0, h => by simp [Tlv.lightL, Tlv.weightL, Tlv.depthL]
  | d, x :: l, left, h0, h => by
    simp only [Tlv.lightL] at h ⊢
    split at h
    · omega
    · rename_i hn
      rw [if_neg hn]
      have h1 := light_weight d x left (by omega)
      have h2 := lightL_weight d l (x.light d left) (by omega) h
      simp only [Tlv.weightL, Tlv.depthL]
      omega
end
def sizeB (n : Nat) : List Int := if n < 128 then [(n : Int)] else if n < 256 then [129, (n : Int)] else if n < 65536 then [130, (n : Int) / 256, (n : Int) % 256] else [131, (n : Int) / 65536, (n : Int) / 256 % 256, (n : Int) % 256]
def headB (c t : Int) (m : Bool) (n : Nat) : List Int := (64 * c + t + (if m then 32 else 0)) :: sizeB n
mutual
def Tlv.enc : Tlv → List Int
  | .mk c t m _ b _ ks => headB c t m (b ++ Tlv.encL ks).length ++ (b ++ Tlv.encL ks)
def Tlv.encL : List Tlv → List Int
  | [] => []
  | x :: l => x.enc ++ Tlv.encL l
end
theorem sizeB_le (n : Nat) : (sizeB n).length ≤ 4 := by
  unfold sizeB; repeat' split
  all_goals simp
mutual
theorem enc_le : ∀ x : Tlv, x.enc.length ≤ 6 * x.weight
  | .mk c t m _ b _ ks => by
    have := encL_le ks
    have h2 := sizeB_le (b ++ Tlv.encL ks).length
    simp only [Tlv.enc, Tlv.weight, headB, List.length_append, List.length_cons] at h2 ⊢
    omega
theorem encL_le : ∀ l : List Tlv, (Tlv.encL l).length ≤ 6 * Tlv.weightL l
  | [] => by simp [Tlv.encL]
  | x :: l => by
    have h1 := enc_le x
    have h2 := encL_le l
    simp only [Tlv.encL, Tlv.weightL, List.length_append]
    omega
end
theorem weightL_mem {x : Tlv} : ∀ {l : List Tlv}, x ∈ l → x.weight ≤ Tlv.weightL l
  | y :: l, h => by
    simp only [Tlv.weightL]
    rcases List.mem_cons.1 h with rfl | h
    · omega
    · have := weightL_mem h; omega
theorem fineL_mem {x : Tlv} : ∀ {l : List Tlv}, Tlv.fineL l = true → x ∈ l → x.fine = true
  | y :: l, hf, h => by
    simp only [Tlv.fineL, Bool.and_eq_true] at hf
    rcases List.mem_cons.1 h with rfl | h
    · exact hf.1
    · exact fineL_mem hf.2 h
mutual
def Tlv.bytesOk : Tlv → Prop
  | .mk _ _ _ _ b _ ks => (∀ c ∈ b, 0 ≤ c ∧ c < 256) ∧ Tlv.bytesOkL ks
def Tlv.bytesOkL : List Tlv → Prop
  | [] => True
  | x :: l => x.bytesOk ∧ Tlv.bytesOkL l
end
theorem bytesOk_mem {x : Tlv} : ∀ {l : List Tlv}, Tlv.bytesOkL l → x ∈ l → x.bytesOk
  | y :: l, hf, h => by
    simp only [Tlv.bytesOkL] at hf
    rcases List.mem_cons.1 h with rfl | h
    · exact hf.1
    · exact bytesOk_mem hf.2 h
mutual
theorem weight_width {W : Nat} : ∀ x : Tlv, x.weight ≤ W → x.width W
  | .mk _ _ _ _ b _ ks, h => by
    simp only [Tlv.weight] at h
    have := weightL_len ks
    exact ⟨by omega, by omega, weightL_width ks (by omega)⟩
theorem weightL_width {W : Nat} : ∀ l : List Tlv, Tlv.weightL l ≤ W → Tlv.widthL W l
  | [], _ => trivial
  | x :: l, h => by
    simp only [Tlv.weightL] at h
    exact ⟨weight_width x (by omega), weightL_width l (by omega)⟩
theorem weightL_len : ∀ l : List Tlv, l.length ≤ Tlv.weightL l
  | [] => by simp [Tlv.weightL]
  | .mk _ _ _ _ b _ ks :: l => by
    have := weightL_len l
    simp only [Tlv.weightL, Tlv.weight, List.length_cons]; omega
end
end Go.Proofs.YtjmcgdhekjkjfaaDoor
set_option linter.unusedSimpArgs false
set_option linter.unusedVariables false
namespace Go.Proofs.YtjmcgdhekjkjfaaDoor
open Go Go.VM
variable {G : GE}
set_option maxRecDepth 100000
set_option maxHeartbeats 4000000
@[simp] theorem evO_nilptr (C : Ctx) (st : St) (t : Nat) : evO C st t (.const (.pointer none)) = some (.d .nilptr) := (rfl)
theorem t_cloneN (F n : Nat) : callN (envG G) F (n+1) 71 [.d (.nums .u8 true [])] = some ⟨[.d (.nums .u8 true [])], [0]⟩ := by
  rw [callN_run (fn := Tryd.f71) rfl rfl rfl (by simp [Tryd.ntmps71])]
  generalize hC : (envG G).ctx 71 (callN (envG G) F (n)) (callP (envG G) F (n)) = C
  have htt : C.tt = (envG G).tt := by rw [← hC]; rfl
  have hlin : C.lin = [7, 2, 5] := by rw [← hC]; rfl
  have hreg : C.reg = reg71 := by rw [← hC]; rfl
  have hcall : C.call = callN (envG G) F (n) := by rw [← hC]; rfl
  have hcallP : C.callP = callP (envG G) F (n) := by rw [← hC]; rfl
  clear hC
  simp [htt, hlin, hreg, reg71, hcall, hcallP]
theorem t_cloneF (F n : Nat) (xs : List Int) (h : xs.length ≤ 140737488355328) : callN (envG G) F (n+1) 71 [.d (.nums .u8 false xs)] = some ⟨[.d (.nums .u8 false xs)], [0]⟩ := by
  rw [callN_run (fn := Tryd.f71) rfl rfl rfl (by simp [Tryd.ntmps71])]
  generalize hC : (envG G).ctx 71 (callN (envG G) F (n)) (callP (envG G) F (n)) = C
  have htt : C.tt = (envG G).tt := by rw [← hC]; rfl
  have hlin : C.lin = [7, 2, 5] := by rw [← hC]; rfl
  have hreg : C.reg = reg71 := by rw [← hC]; rfl
  have hcall : C.call = callN (envG G) F (n) := by rw [← hC]; rfl
  have hcallP : C.callP = callP (envG G) F (n) := by rw [← hC]; rfl
  simp [htt, hlin, hreg, reg71, hcall, hcallP, h]
def devB (a b : D) (m : V) (fuses : Int) (off : Bool) (steps left : Int) : Blk := .cells false [.d a, .d b, m, .d (.int .u64 fuses), .d (.bool off), .d (.int .i64 steps), .d (.int .i64 left)]
theorem t_New (F n : Nat) (r : Int) (L : Nat) (hr : 0 ≤ r ∧ r ≤ 65536) (hL : L ≤ 262144) :
    callP (envG G) F (n+2) 25 [.d (.int .i64 r), .d (.nums .u8 true []), .mu 0 0 L L 1] [some (.ints false .u8 (List.replicate L 0))] [.t 1] =
      some ⟨[.ptr 1 0, .d .nilifc], [], [some (.ints true .u8 (List.replicate L 0)), some (devB (.nums .u8 true []) (.nums .u8 false (List.replicate L 0)) (.mu 2 0 r.toNat r.toNat 1) 0 false 0 0), some (.ints false .u8 (List.replicate r.toNat 0))], []⟩ := by
  have k1 := t_cloneN (G := G) F n
  have k2 := t_cloneF (G := G) F n (List.replicate L 0) (by simp; omega)
  have e1 : ¬ r < 0 := by omega
  have e2 : ¬ (65536 : Int) < r := by omega
  have e3 : ¬ (262144 : Int) < (L : Int) := by omega
  have e4 : 0 ≤ r := hr.1
  have e5 : r ≤ 9223372036854775807 := by omega
  have e6 : r ≤ 281474976710656 := by omega
  unfold devB
  rw [callP_run (fn := Tryd.f25) rfl rfl rfl (by simp [Tryd.ntmps25])]
  generalize hC : (envG G).ctx 25 (callN (envG G) F (n+1)) (callP (envG G) F (n+1)) = C
  have htt : C.tt = (envG G).tt := by rw [← hC]; rfl
  have hlin : C.lin = [] := by rw [← hC]; rfl
  have hreg : C.reg = reg25 := by rw [← hC]; rfl
  have hcall : C.call = callN (envG G) F (n+1) := by rw [← hC]; rfl
  have hcallP : C.callP = callP (envG G) F (n+1) := by rw [← hC]; rfl
  have hlv_200005 : C.live 200005 = [] := by rw [← hC]; rfl
  have hlv_250005 : C.live 250005 = [] := by rw [← hC]; rfl
  clear hC
  simp [htt, hlin, hreg, reg25, hcall, hcallP, hlv_200005, hlv_250005, k1, k2, e1, e2, e3, e4, e5, e6]
theorem t_New_bad (F n : Nat) (r : Int) (L : Nat) (hr : r < 0 ∨ 65536 < r) (hL : L ≤ 1048576) :
    callP (envG G) F (n+2) 25 [.d (.int .i64 r), .d (.nums .u8 true []), .mu 0 0 L L 1] [some (.ints false .u8 (List.replicate L 0))] [.t 1] =
      some ⟨[.d .nilptr, .d (.ifc 36 (.int .i64 1))], [], [some (.ints false .u8 (List.replicate L 0))], []⟩ := by
  by_cases e1 : r < 0
  · skip
    rw [callP_run (fn := Tryd.f25) rfl rfl rfl (by simp [Tryd.ntmps25])]
    generalize hC : (envG G).ctx 25 (callN (envG G) F (n+1)) (callP (envG G) F (n+1)) = C
    have htt : C.tt = (envG G).tt := by rw [← hC]; rfl
    have hlin : C.lin = [] := by rw [← hC]; rfl
    have hreg : C.reg = reg25 := by rw [← hC]; rfl
    have hcall : C.call = callN (envG G) F (n+1) := by rw [← hC]; rfl
    have hcallP : C.callP = callP (envG G) F (n+1) := by rw [← hC]; rfl
    have hlv_200005 : C.live 200005 = [] := by rw [← hC]; rfl
    have hlv_250005 : C.live 250005 = [] := by rw [← hC]; rfl
    clear hC
    simp [htt, hlin, hreg, reg25, hcall, hcallP, hlv_200005, hlv_250005, e1]
  · have e2 : (65536 : Int) < r := by omega
    rw [callP_run (fn := Tryd.f25) rfl rfl rfl (by simp [Tryd.ntmps25])]
    generalize hC : (envG G).ctx 25 (callN (envG G) F (n+1)) (callP (envG G) F (n+1)) = C
    have htt : C.tt = (envG G).tt := by rw [← hC]; rfl
    have hlin : C.lin = [] := by rw [← hC]; rfl
    have hreg : C.reg = reg25 := by rw [← hC]; rfl
    have hcall : C.call = callN (envG G) F (n+1) := by rw [← hC]; rfl
    have hcallP : C.callP = callP (envG G) F (n+1) := by rw [← hC]; rfl
    have hlv_200005 : C.live 200005 = [] := by rw [← hC]; rfl
    have hlv_250005 : C.live 250005 = [] := by rw [← hC]; rfl
    clear hC
    simp [htt, hlin, hreg, reg25, hcall, hcallP, hlv_200005, hlv_250005, e1, e2]
theorem t_New_long (F n : Nat) (r : Int) (L : Nat) (hr : 0 ≤ r ∧ r ≤ 65536) (hL : 262144 < L) (hL2 : L ≤ 1048576) :
    callP (envG G) F (n+2) 25 [.d (.int .i64 r), .d (.nums .u8 true []), .mu 0 0 L L 1] [some (.ints false .u8 (List.replicate L 0))] [.t 1] =
      some ⟨[.d .nilptr, .d (.ifc 36 (.int .i64 2))], [], [some (.ints false .u8 (List.replicate L 0))], []⟩ := by
  have e1 : ¬ r < 0 := by omega
  have e2 : ¬ (65536 : Int) < r := by omega
  have e3 : (262144 : Int) < (L : Int) := by omega
  rw [callP_run (fn := Tryd.f25) rfl rfl rfl (by simp [Tryd.ntmps25])]
  generalize hC : (envG G).ctx 25 (callN (envG G) F (n+1)) (callP (envG G) F (n+1)) = C
  have htt : C.tt = (envG G).tt := by rw [← hC]; rfl
  have hlin : C.lin = [] := by rw [← hC]; rfl
  have hreg : C.reg = reg25 := by rw [← hC]; rfl
  have hcall : C.call = callN (envG G) F (n+1) := by rw [← hC]; rfl
  have hcallP : C.callP = callP (envG G) F (n+1) := by rw [← hC]; rfl
  have hlv_200005 : C.live 200005 = [] := by rw [← hC]; rfl
  have hlv_250005 : C.live 250005 = [] := by rw [← hC]; rfl
  clear hC
  simp [htt, hlin, hreg, reg25, hcall, hcallP, hlv_200005, hlv_250005, e1, e2, e3]
theorem mu_nil {C : Ctx} (htt : C.tt = (envG G).tt) (o : Operand) (i f l c : Nat) : evBin C .eql 22 o (.const (.slice none 0 0)) (.mu i f l c 1) (.d (.nums .u8 true [])) = some (.bool false) := by
  cases C
  cases htt
  rfl
@[simp] theorem srcNums_mu0 (ts : List (Nat × V)) (os : List Pl) (fz : Bool) (xs : List Int) (l : List (Option Blk)) (o n c : Nat) : srcNums ⟨ts, some (.ints fz .u8 xs) :: l, os⟩ .u8 (.mu 0 o n c 1) = some ((xs.drop o).take n) := (rfl)
theorem t_cloneP (F n : Nat) (fz : Bool) (xs : List Int) (L : Nat) (hx : xs.length = L) (hL : L ≤ 65536) :
    callP (envG G) F (n+1) 71 [.mu 0 0 L L 1] [some (.ints fz .u8 xs)] [] = some ⟨[.d (.nums .u8 false xs)], [0], [some (.ints fz .u8 xs)], []⟩ := by
  have e1 : xs.take L = xs := by rw [← hx, List.take_length]
  have e2 : L ≤ 140737488355328 := by omega
  rw [callP_run (fn := Tryd.f71) rfl rfl rfl (by simp [Tryd.ntmps71])]
  generalize hC : (envG G).ctx 71 (callN (envG G) F (n)) (callP (envG G) F (n)) = C
  have htt : C.tt = (envG G).tt := by rw [← hC]; rfl
  have hlin : C.lin = [7, 2, 5] := by rw [← hC]; rfl
  have hreg : C.reg = reg71 := by rw [← hC]; rfl
  have hcall : C.call = callN (envG G) F (n) := by rw [← hC]; rfl
  have hcallP : C.callP = callP (envG G) F (n) := by rw [← hC]; rfl
  clear hC
  simp [htt, hlin, hreg, reg71, hcall, hcallP, e1, e2, hx, (mu_nil (G := G))]
theorem t_Ram (F n : Nat) (a b : D) (fz : Bool) (xs : List Int) (L : Nat) (hx : xs.length = L) (hL : L ≤ 65536) (f : Int) (off : Bool) (st l : Int) :
    callP (envG G) F (n+2) 33 [.ptr 0 0] [some (devB a b (.mu 1 0 L L 1) f off st l), some (.ints fz .u8 xs)] [] = some ⟨[.d (.nums .u8 false xs)], [0], [some (devB a b (.mu 1 0 L L 1) f off st l), some (.ints fz .u8 xs)], []⟩ := by
  have k := t_cloneP (G := G) F n fz xs L hx hL
  unfold devB
  rw [callP_run (fn := Tryd.f33) rfl rfl rfl (by simp [Tryd.ntmps33])]
  generalize hC : (envG G).ctx 33 (callN (envG G) F (n+1)) (callP (envG G) F (n+1)) = C
  have htt : C.tt = (envG G).tt := by rw [← hC]; rfl
  have hlin : C.lin = [7, 2, 1000007] := by rw [← hC]; rfl
  have hreg : C.reg = reg33 := by rw [← hC]; rfl
  have hcall : C.call = callN (envG G) F (n+1) := by rw [← hC]; rfl
  have hcallP : C.callP = callP (envG G) F (n+1) := by rw [← hC]; rfl
  clear hC
  simp [htt, hlin, hreg, reg33, hcall, hcallP, k]
theorem t_slot (F n : Nat) (i : Int) : callN (envG G) F (n+1) 73 [.d (.int .i64 i)] = some ⟨[.d (.bool (decide (i = 0 ∨ i = 1)))], []⟩ := by
  rw [callN_run (fn := Tryd.f73) rfl rfl rfl (by simp [Tryd.ntmps73])]
  generalize hC : (envG G).ctx 73 (callN (envG G) F (n)) (callP (envG G) F (n)) = C
  have htt : C.tt = (envG G).tt := by rw [← hC]; rfl
  have hlin : C.lin = [] := by rw [← hC]; rfl
  have hreg : C.reg = reg73 := by rw [← hC]; rfl
  have hcall : C.call = callN (envG G) F (n) := by rw [← hC]; rfl
  have hcallP : C.callP = callP (envG G) F (n) := by rw [← hC]; rfl
  clear hC
  by_cases h0 : i = 0
  · simp [htt, hlin, hreg, reg73, hcall, hcallP, h0]
  · by_cases h1 : i = 1 <;> simp [htt, hlin, hreg, reg73, hcall, hcallP, h0, h1]
theorem t_Slot0 (F n : Nat) (b : List Int) (nb : Bool) (fz : Bool) (xs : List Int) (L : Nat) (f : Int) (off : Bool) (st l : Int) (R : Option Hand) :
    callP (envG G) F (n+2) 34 [.ptr 0 0, .d (.int .i64 0)] [some (devB (.nums .u8 true []) (.nums .u8 nb b) (.mu 1 0 L L 1) f off st l), some (.ints fz .u8 xs)] [] = some ⟨[.d (.nums .u8 true []), .d .nilifc], [0], [some (devB (.nums .u8 true []) (.nums .u8 nb b) (.mu 1 0 L L 1) f off st l), some (.ints fz .u8 xs)], []⟩ := by
  have k := t_cloneN (G := G) F n
  have k2 := t_slot (G := G) F n 0
  unfold devB
  rw [callP_run (fn := Tryd.f34) rfl rfl rfl (by simp [Tryd.ntmps34])]
  generalize hC : (envG G).ctx 34 (callN (envG G) F (n+1)) (callP (envG G) F (n+1)) = C
  have htt : C.tt = (envG G).tt := by rw [← hC]; rfl
  have hlin : C.lin = [] := by rw [← hC]; rfl
  have hreg : C.reg = reg34 := by rw [← hC]; rfl
  have hcall : C.call = callN (envG G) F (n+1) := by rw [← hC]; rfl
  have hcallP : C.callP = callP (envG G) F (n+1) := by rw [← hC]; rfl
  clear hC
  simp [htt, hlin, hreg, reg34, hcall, hcallP, k, k2]
theorem t_Slot1 (F n : Nat) (b : List Int) (a : D) (fz : Bool) (xs : List Int) (L : Nat) (f : Int) (off : Bool) (st l : Int) (hb : b.length ≤ 262144) :
    callP (envG G) F (n+2) 34 [.ptr 0 0, .d (.int .i64 1)] [some (devB a (.nums .u8 false b) (.mu 1 0 L L 1) f off st l), some (.ints fz .u8 xs)] [] = some ⟨[.d (.nums .u8 false b), .d .nilifc], [0], [some (devB a (.nums .u8 false b) (.mu 1 0 L L 1) f off st l), some (.ints fz .u8 xs)], []⟩ := by
  have k := t_cloneF (G := G) F n b (by omega)
  have k2 := t_slot (G := G) F n 1
  unfold devB
  rw [callP_run (fn := Tryd.f34) rfl rfl rfl (by simp [Tryd.ntmps34])]
  generalize hC : (envG G).ctx 34 (callN (envG G) F (n+1)) (callP (envG G) F (n+1)) = C
  have htt : C.tt = (envG G).tt := by rw [← hC]; rfl
  have hlin : C.lin = [] := by rw [← hC]; rfl
  have hreg : C.reg = reg34 := by rw [← hC]; rfl
  have hcall : C.call = callN (envG G) F (n+1) := by rw [← hC]; rfl
  have hcallP : C.callP = callP (envG G) F (n+1) := by rw [← hC]; rfl
  clear hC
  simp [htt, hlin, hreg, reg34, hcall, hcallP, k, k2]
theorem t_Slot_bad (F n : Nat) (i : Int) (hi : ¬ (i = 0 ∨ i = 1)) (a b : D) (fz : Bool) (xs : List Int) (L : Nat) (f : Int) (off : Bool) (st l : Int) :
    callP (envG G) F (n+2) 34 [.ptr 0 0, .d (.int .i64 i)] [some (devB a b (.mu 1 0 L L 1) f off st l), some (.ints fz .u8 xs)] [] = some ⟨[.d (.nums .u8 true []), .d (.ifc 36 (.int .i64 1))], [], [some (devB a b (.mu 1 0 L L 1) f off st l), some (.ints fz .u8 xs)], []⟩ := by
  have k2 := t_slot (G := G) F n i
  rw [decide_eq_false hi] at k2
  unfold devB
  rw [callP_run (fn := Tryd.f34) rfl rfl rfl (by simp [Tryd.ntmps34])]
  generalize hC : (envG G).ctx 34 (callN (envG G) F (n+1)) (callP (envG G) F (n+1)) = C
  have htt : C.tt = (envG G).tt := by rw [← hC]; rfl
  have hlin : C.lin = [] := by rw [← hC]; rfl
  have hreg : C.reg = reg34 := by rw [← hC]; rfl
  have hcall : C.call = callN (envG G) F (n+1) := by rw [← hC]; rfl
  have hcallP : C.callP = callP (envG G) F (n+1) := by rw [← hC]; rfl
  clear hC
  simp [htt, hlin, hreg, reg34, hcall, hcallP, k2]
theorem t_Flash_bad (F n : Nat) (i : Int) (hi : ¬ (i = 0 ∨ i = 1)) (y : List Int) (a b : D) (fz : Bool) (xs : List Int) (L : Nat) (f : Int) (off : Bool) (st l : Int) :
    callP (envG G) F (n+2) 31 [.ptr 0 0, .d (.int .i64 i), .d (.nums .u8 false y)] [some (devB a b (.mu 1 0 L L 1) f off st l), some (.ints fz .u8 xs)] [] = some ⟨[.d (.ifc 36 (.int .i64 1))], [], [some (devB a b (.mu 1 0 L L 1) f off st l), some (.ints fz .u8 xs)], []⟩ := by
  have k2 := t_slot (G := G) F n i
  rw [decide_eq_false hi] at k2
  unfold devB
  rw [callP_run (fn := Tryd.f31) rfl rfl rfl (by simp [Tryd.ntmps31])]
  generalize hC : (envG G).ctx 31 (callN (envG G) F (n+1)) (callP (envG G) F (n+1)) = C
  have htt : C.tt = (envG G).tt := by rw [← hC]; rfl
  have hlin : C.lin = [] := by rw [← hC]; rfl
  have hreg : C.reg = reg31 := by rw [← hC]; rfl
  have hcall : C.call = callN (envG G) F (n+1) := by rw [← hC]; rfl
  have hcallP : C.callP = callP (envG G) F (n+1) := by rw [← hC]; rfl
  have hlv_200005 : C.live 200005 = [] := by rw [← hC]; rfl
  have hlv_250005 : C.live 250005 = [] := by rw [← hC]; rfl
  clear hC
  simp [htt, hlin, hreg, reg31, hcall, hcallP, hlv_200005, hlv_250005, k2]
theorem t_Flash_long (F n : Nat) (i : Int) (hi : i = 0 ∨ i = 1) (y : List Int) (hy : 262144 < y.length) (a b : D) (fz : Bool) (xs : List Int) (L : Nat) (f : Int) (off : Bool) (st l : Int) :
    callP (envG G) F (n+2) 31 [.ptr 0 0, .d (.int .i64 i), .d (.nums .u8 false y)] [some (devB a b (.mu 1 0 L L 1) f off st l), some (.ints fz .u8 xs)] [] = some ⟨[.d (.ifc 36 (.int .i64 2))], [], [some (devB a b (.mu 1 0 L L 1) f off st l), some (.ints fz .u8 xs)], []⟩ := by
  have k2 := t_slot (G := G) F n i
  rw [decide_eq_true hi] at k2
  have e1 : (262144 : Int) < (y.length : Int) := by omega
  unfold devB
  rw [callP_run (fn := Tryd.f31) rfl rfl rfl (by simp [Tryd.ntmps31])]
  generalize hC : (envG G).ctx 31 (callN (envG G) F (n+1)) (callP (envG G) F (n+1)) = C
  have htt : C.tt = (envG G).tt := by rw [← hC]; rfl
  have hlin : C.lin = [] := by rw [← hC]; rfl
  have hreg : C.reg = reg31 := by rw [← hC]; rfl
  have hcall : C.call = callN (envG G) F (n+1) := by rw [← hC]; rfl
  have hcallP : C.callP = callP (envG G) F (n+1) := by rw [← hC]; rfl
  have hlv_200005 : C.live 200005 = [] := by rw [← hC]; rfl
  have hlv_250005 : C.live 250005 = [] := by rw [← hC]; rfl
  clear hC
  simp [htt, hlin, hreg, reg31, hcall, hcallP, hlv_200005, hlv_250005, k2, e1]
end Go.Proofs.YtjmcgdhekjkjfaaDoor
set_option linter.unusedSimpArgs false
set_option linter.unusedVariables false
namespace Go.Proofs.YtjmcgdhekjkjfaaDoor
open Go Go.VM
set_option maxRecDepth 100000
set_option maxHeartbeats 8000000
def tabC : List D := [0, 1, 56, 2, 57, 49, 28, 3, 61, 58, 42, 50, 38, 29, 17, 4, 62, 47, 59, 36, 45, 43, 51, 22, 53, 39, 33, 30, 24, 18, 12, 5, 63, 55, 48, 27, 60, 41, 37, 16, 46, 35, 44, 21, 52, 32, 23, 11, 54, 26, 40, 15, 34, 20, 31, 10, 25, 14, 19, 9, 13, 8, 7, 6].map (.int .u8)
noncomputable def gDv : GE := { glob := fun g => match Nat.beq g 5 with | true => some tabC | false => none, ext := fun _ _ => none }
theorem up21_0 : callN (envG gDv) 200 40 23 [] = some ⟨[.d (.bool true)], []⟩ := by kernel_rfl
theorem up21 (F n : Nat) (hf : 200 ≤ F) (hn : 40 ≤ n) : callN (envG gDv) F n 23 [] = some ⟨[.d (.bool true)], []⟩ := callN_mono hf hn up21_0
end Go.Proofs.YtjmcgdhekjkjfaaDoor
set_option linter.unusedSimpArgs false
set_option linter.unusedVariables false
namespace Go.Proofs.YtjmcgdhekjkjfaaDoor
open Go Go.VM
set_option maxRecDepth 100000
set_option maxHeartbeats 8000000
theorem ptr_eq0 {C : Ctx} (htt : C.tt = (envG gDv).tt) (o : Operand) : evBin C .eql 50 o (.const (.pointer none)) (.d .nilptr) (.d .nilptr) = some (.bool true) := by
  cases C
  cases htt
  rfl
theorem ptr_eq1 {C : Ctx} (htt : C.tt = (envG gDv).tt) (o : Operand) (b f : Nat) : evBin C .eql 50 o (.const (.pointer none)) (.ptr b f) (.d .nilptr) = some (.bool false) := by
  cases C
  cases htt
  rfl
theorem da_law (F n : Nat) (hF : 200 ≤ F) (r m i : Int) : callN (envG gDv) F (n + 50) 7 [.d (.int .i64 r), .d (.int .i64 m), .d (.int .i64 i)] = some ⟨[.d (.bool true)], []⟩ := by
  have hu := up21 F (n + 49) hF (by omega)
  have kB : ∀ (L : Nat), (r < 0 ∨ 65536 < r) → L ≤ 1048576 → callP (envG gDv) F (n + 49) _ _ _ _ = _ := fun L h h2 => t_New_bad (G := gDv) F (n + 47) r L h h2
  have kL : ∀ (L : Nat), 0 ≤ r ∧ r ≤ 65536 → 262144 < L → L ≤ 1048576 → callP (envG gDv) F (n + 49) _ _ _ _ = _ := fun L h h2 h3 => t_New_long (G := gDv) F (n + 47) r L h h2 h3
  have kN : ∀ (L : Nat), 0 ≤ r ∧ r ≤ 65536 → L ≤ 262144 → callP (envG gDv) F (n + 49) _ _ _ _ = _ := fun L h h2 => t_New (G := gDv) F (n + 47) r L h h2
  have kR : ∀ (a b : D), 0 ≤ r ∧ r ≤ 65536 → callP (envG gDv) F (n + 49) _ _ _ _ = _ := fun a b h => t_Ram (G := gDv) F (n + 47) a b false (List.replicate r.toNat 0) r.toNat (by simp) (by omega) 0 false 0 0
  have q : ∃ L : Nat, ((m < 0 ∨ 1048576 < m) ∧ L = 5) ∨ (¬ m < 0 ∧ ¬ 1048576 < m ∧ m = L ∧ L ≤ 1048576) := by
    by_cases h : m < 0 ∨ 1048576 < m
    · exact ⟨5, .inl ⟨h, rfl⟩⟩
    · exact ⟨m.toNat, .inr ⟨by omega, by omega, by omega, by omega⟩⟩
  obtain ⟨L, q⟩ := q
  have hL : L ≤ 1048576 := by omega
  by_cases hr : r < 0 ∨ 65536 < r
  · have kB := kB L hr hL
    clear kL kN kR
    rcases q with ⟨h, rfl⟩ | ⟨h1, h2, rfl, h3⟩
    · skip
      rw [callN_run (fn := Tryd.f7) rfl rfl rfl (by simp [Tryd.ntmps7])]
      generalize hC : (envG gDv).ctx 7 (callN (envG gDv) F (n+49)) (callP (envG gDv) F (n+49)) = C
      have htt : C.tt = (envG gDv).tt := by rw [← hC]; rfl
      have hlin : C.lin = [104, 94, 54, 42, 6, 1000024] := by rw [← hC]; rfl
      have hreg : C.reg = reg7 := by rw [← hC]; rfl
      have hcall : C.call = callN (envG gDv) F (n+49) := by rw [← hC]; rfl
      have hcallP : C.callP = callP (envG gDv) F (n+49) := by rw [← hC]; rfl
      clear hC
      rcases h with h | h
      · rcases hr with hr | hr
        · simp [-List.reduceReplicate, htt, hlin, hreg, reg7, hcall, hcallP, hu, kB, h, hr, ptr_eq0, ptr_eq1]
        · have hr2 : ¬ r < 0 := by omega
          simp [-List.reduceReplicate, htt, hlin, hreg, reg7, hcall, hcallP, hu, kB, h, hr, hr2, ptr_eq0, ptr_eq1]
      · have h2 : ¬ m < 0 := by omega
        rcases hr with hr | hr
        · simp [-List.reduceReplicate, htt, hlin, hreg, reg7, hcall, hcallP, hu, kB, h, h2, hr, ptr_eq0, ptr_eq1]
        · have hr2 : ¬ r < 0 := by omega
          simp [-List.reduceReplicate, htt, hlin, hreg, reg7, hcall, hcallP, hu, kB, h, h2, hr, hr2, ptr_eq0, ptr_eq1]
    · have e1 : (L : Int) ≤ 9223372036854775807 := by omega
      have e2 : (L : Int) ≤ 281474976710656 := by omega
      rw [callN_run (fn := Tryd.f7) rfl rfl rfl (by simp [Tryd.ntmps7])]
      generalize hC : (envG gDv).ctx 7 (callN (envG gDv) F (n+49)) (callP (envG gDv) F (n+49)) = C
      have htt : C.tt = (envG gDv).tt := by rw [← hC]; rfl
      have hlin : C.lin = [104, 94, 54, 42, 6, 1000024] := by rw [← hC]; rfl
      have hreg : C.reg = reg7 := by rw [← hC]; rfl
      have hcall : C.call = callN (envG gDv) F (n+49) := by rw [← hC]; rfl
      have hcallP : C.callP = callP (envG gDv) F (n+49) := by rw [← hC]; rfl
      clear hC
      rcases hr with hr | hr
      · simp [-List.reduceReplicate, htt, hlin, hreg, reg7, hcall, hcallP, hu, kB, h1, h2, e1, e2, hr, ptr_eq0, ptr_eq1]
      · have hr2 : ¬ r < 0 := by omega
        simp [-List.reduceReplicate, htt, hlin, hreg, reg7, hcall, hcallP, hu, kB, h1, h2, e1, e2, hr, hr2, ptr_eq0, ptr_eq1]
  · have hr0 : ¬ r < 0 := by omega
    have hr1 : ¬ 65536 < r := by omega
    have hrr : 0 ≤ r ∧ r ≤ 65536 := by omega
    by_cases hl : 262144 < L
    · have kL := kL L hrr hl hL
      clear kB kN kR
      rcases q with ⟨h, rfl⟩ | ⟨h1, h2, rfl, h3⟩
      · omega
      · have e1 : (L : Int) ≤ 9223372036854775807 := by omega
        have e2 : (L : Int) ≤ 281474976710656 := by omega
        have e3 : (262144 : Int) < L := by omega
        rw [callN_run (fn := Tryd.f7) rfl rfl rfl (by simp [Tryd.ntmps7])]
        generalize hC : (envG gDv).ctx 7 (callN (envG gDv) F (n+49)) (callP (envG gDv) F (n+49)) = C
        have htt : C.tt = (envG gDv).tt := by rw [← hC]; rfl
        have hlin : C.lin = [104, 94, 54, 42, 6, 1000024] := by rw [← hC]; rfl
        have hreg : C.reg = reg7 := by rw [← hC]; rfl
        have hcall : C.call = callN (envG gDv) F (n+49) := by rw [← hC]; rfl
        have hcallP : C.callP = callP (envG gDv) F (n+49) := by rw [← hC]; rfl
        clear hC
        simp [-List.reduceReplicate, htt, hlin, hreg, reg7, hcall, hcallP, hu, kL, h1, h2, e1, e2, e3, hr0, hr1, ptr_eq0, ptr_eq1]
    · have kN := kN L hrr (by omega)
      obtain ⟨W, rfl⟩ : ∃ W : Nat, r = W := ⟨r.toNat, by omega⟩
      simp only [Int.toNat_natCast] at kN
      have kR : callP (envG gDv) F (n + 49) _ _ _ _ = _ := t_Ram (G := gDv) F (n + 47) (.nums .u8 true []) (.nums .u8 false (List.replicate L 0)) false (List.replicate W 0) W (by simp) (by omega) 0 false 0 0
      have kS0 : callP (envG gDv) F (n + 49) _ _ _ _ = _ := t_Slot0 (G := gDv) F (n + 47) (List.replicate L 0) false false (List.replicate W 0) W 0 false 0 0 none
      have kS1 : callP (envG gDv) F (n + 49) _ _ _ _ = _ := t_Slot1 (G := gDv) F (n + 47) (List.replicate L 0) (.nums .u8 true []) false (List.replicate W 0) W 0 false 0 0 (by simp; omega)
      have kSb : ¬ (i = 0 ∨ i = 1) → callP (envG gDv) F (n + 49) _ _ _ _ = _ := fun h => t_Slot_bad (G := gDv) F (n + 47) i h (.nums .u8 true []) (.nums .u8 false (List.replicate L 0)) false (List.replicate W 0) W 0 false 0 0
      have kFb : ¬ (i = 0 ∨ i = 1) → callP (envG gDv) F (n + 49) _ _ _ _ = _ := fun h => t_Flash_bad (G := gDv) F (n + 47) i h (List.replicate 262145 0) (.nums .u8 true []) (.nums .u8 false (List.replicate L 0)) false (List.replicate W 0) W 0 false 0 0
      have kFl : (i = 0 ∨ i = 1) → callP (envG gDv) F (n + 49) _ _ _ _ = _ := fun h => t_Flash_long (G := gDv) F (n + 47) i h (List.replicate 262145 0) (by simp [-List.reduceReplicate]) (.nums .u8 true []) (.nums .u8 false (List.replicate L 0)) false (List.replicate W 0) W 0 false 0 0
      clear kB kL
      unfold devB at *
      have hl' : ¬ (262144 : Int) < L := by omega
      have e3 : ¬ (W : Int) < 0 := by omega
      have e4 : ¬ (65536 : Int) < W := by omega
      rcases q with ⟨h, rfl⟩ | ⟨h1, h2, rfl, h3⟩
      · rcases h with h | h
        · skip
          by_cases i0 : i = 0
          · subst i0
            have kFl := kFl (.inl rfl)
            clear kFb kSb kS1
            rw [callN_run (fn := Tryd.f7) rfl rfl rfl (by simp [Tryd.ntmps7])]
            generalize hC : (envG gDv).ctx 7 (callN (envG gDv) F (n+49)) (callP (envG gDv) F (n+49)) = C
            have htt : C.tt = (envG gDv).tt := by rw [← hC]; rfl
            have hlin : C.lin = [104, 94, 54, 42, 6, 1000024] := by rw [← hC]; rfl
            have hreg : C.reg = reg7 := by rw [← hC]; rfl
            have hcall : C.call = callN (envG gDv) F (n+49) := by rw [← hC]; rfl
            have hcallP : C.callP = callP (envG gDv) F (n+49) := by rw [← hC]; rfl
            clear hC
            simp [-List.reduceReplicate, htt, hlin, hreg, reg7, hcall, hcallP, hu, kN, kR, kS0, kFl, h, e3, e4, hl', ptr_eq0, ptr_eq1]
          · by_cases i1 : i = 1
            · subst i1
              have kFl := kFl (.inr rfl)
              clear kFb kSb kS0
              rw [callN_run (fn := Tryd.f7) rfl rfl rfl (by simp [Tryd.ntmps7])]
              generalize hC : (envG gDv).ctx 7 (callN (envG gDv) F (n+49)) (callP (envG gDv) F (n+49)) = C
              have htt : C.tt = (envG gDv).tt := by rw [← hC]; rfl
              have hlin : C.lin = [104, 94, 54, 42, 6, 1000024] := by rw [← hC]; rfl
              have hreg : C.reg = reg7 := by rw [← hC]; rfl
              have hcall : C.call = callN (envG gDv) F (n+49) := by rw [← hC]; rfl
              have hcallP : C.callP = callP (envG gDv) F (n+49) := by rw [← hC]; rfl
              clear hC
              simp [-List.reduceReplicate, htt, hlin, hreg, reg7, hcall, hcallP, hu, kN, kR, kS1, kFl, h, e3, e4, hl', ptr_eq0, ptr_eq1]
            · have kFb := kFb (by omega)
              have kSb := kSb (by omega)
              clear kFl kS0 kS1
              rw [callN_run (fn := Tryd.f7) rfl rfl rfl (by simp [Tryd.ntmps7])]
              generalize hC : (envG gDv).ctx 7 (callN (envG gDv) F (n+49)) (callP (envG gDv) F (n+49)) = C
              have htt : C.tt = (envG gDv).tt := by rw [← hC]; rfl
              have hlin : C.lin = [104, 94, 54, 42, 6, 1000024] := by rw [← hC]; rfl
              have hreg : C.reg = reg7 := by rw [← hC]; rfl
              have hcall : C.call = callN (envG gDv) F (n+49) := by rw [← hC]; rfl
              have hcallP : C.callP = callP (envG gDv) F (n+49) := by rw [← hC]; rfl
              clear hC
              simp [-List.reduceReplicate, htt, hlin, hreg, reg7, hcall, hcallP, hu, kN, kR, kSb, kFb, h, i0, i1, e3, e4, hl', ptr_eq0, ptr_eq1]
        · have h2 : ¬ m < 0 := by omega
          by_cases i0 : i = 0
          · subst i0
            have kFl := kFl (.inl rfl)
            clear kFb kSb kS1
            rw [callN_run (fn := Tryd.f7) rfl rfl rfl (by simp [Tryd.ntmps7])]
            generalize hC : (envG gDv).ctx 7 (callN (envG gDv) F (n+49)) (callP (envG gDv) F (n+49)) = C
            have htt : C.tt = (envG gDv).tt := by rw [← hC]; rfl
            have hlin : C.lin = [104, 94, 54, 42, 6, 1000024] := by rw [← hC]; rfl
            have hreg : C.reg = reg7 := by rw [← hC]; rfl
            have hcall : C.call = callN (envG gDv) F (n+49) := by rw [← hC]; rfl
            have hcallP : C.callP = callP (envG gDv) F (n+49) := by rw [← hC]; rfl
            clear hC
            simp [-List.reduceReplicate, htt, hlin, hreg, reg7, hcall, hcallP, hu, kN, kR, kS0, kFl, h, h2, e3, e4, hl', ptr_eq0, ptr_eq1]
          · by_cases i1 : i = 1
            · subst i1
              have kFl := kFl (.inr rfl)
              clear kFb kSb kS0
              rw [callN_run (fn := Tryd.f7) rfl rfl rfl (by simp [Tryd.ntmps7])]
              generalize hC : (envG gDv).ctx 7 (callN (envG gDv) F (n+49)) (callP (envG gDv) F (n+49)) = C
              have htt : C.tt = (envG gDv).tt := by rw [← hC]; rfl
              have hlin : C.lin = [104, 94, 54, 42, 6, 1000024] := by rw [← hC]; rfl
              have hreg : C.reg = reg7 := by rw [← hC]; rfl
              have hcall : C.call = callN (envG gDv) F (n+49) := by rw [← hC]; rfl
              have hcallP : C.callP = callP (envG gDv) F (n+49) := by rw [← hC]; rfl
              clear hC
              simp [-List.reduceReplicate, htt, hlin, hreg, reg7, hcall, hcallP, hu, kN, kR, kS1, kFl, h, h2, e3, e4, hl', ptr_eq0, ptr_eq1]
            · have kFb := kFb (by omega)
              have kSb := kSb (by omega)
              clear kFl kS0 kS1
              rw [callN_run (fn := Tryd.f7) rfl rfl rfl (by simp [Tryd.ntmps7])]
              generalize hC : (envG gDv).ctx 7 (callN (envG gDv) F (n+49)) (callP (envG gDv) F (n+49)) = C
              have htt : C.tt = (envG gDv).tt := by rw [← hC]; rfl
              have hlin : C.lin = [104, 94, 54, 42, 6, 1000024] := by rw [← hC]; rfl
              have hreg : C.reg = reg7 := by rw [← hC]; rfl
              have hcall : C.call = callN (envG gDv) F (n+49) := by rw [← hC]; rfl
              have hcallP : C.callP = callP (envG gDv) F (n+49) := by rw [← hC]; rfl
              clear hC
              simp [-List.reduceReplicate, htt, hlin, hreg, reg7, hcall, hcallP, hu, kN, kR, kSb, kFb, h, h2, i0, i1, e3, e4, hl', ptr_eq0, ptr_eq1]
      · have e1 : (L : Int) ≤ 9223372036854775807 := by omega
        have e2 : (L : Int) ≤ 281474976710656 := by omega
        by_cases i0 : i = 0
        · subst i0
          have kFl := kFl (.inl rfl)
          clear kFb kSb kS1
          rw [callN_run (fn := Tryd.f7) rfl rfl rfl (by simp [Tryd.ntmps7])]
          generalize hC : (envG gDv).ctx 7 (callN (envG gDv) F (n+49)) (callP (envG gDv) F (n+49)) = C
          have htt : C.tt = (envG gDv).tt := by rw [← hC]; rfl
          have hlin : C.lin = [104, 94, 54, 42, 6, 1000024] := by rw [← hC]; rfl
          have hreg : C.reg = reg7 := by rw [← hC]; rfl
          have hcall : C.call = callN (envG gDv) F (n+49) := by rw [← hC]; rfl
          have hcallP : C.callP = callP (envG gDv) F (n+49) := by rw [← hC]; rfl
          clear hC
          simp [-List.reduceReplicate, htt, hlin, hreg, reg7, hcall, hcallP, hu, kN, kR, kS0, kFl, h1, h2, e1, e2, e3, e4, hl', ptr_eq0, ptr_eq1]
        · by_cases i1 : i = 1
          · subst i1
            have kFl := kFl (.inr rfl)
            clear kFb kSb kS0
            rw [callN_run (fn := Tryd.f7) rfl rfl rfl (by simp [Tryd.ntmps7])]
            generalize hC : (envG gDv).ctx 7 (callN (envG gDv) F (n+49)) (callP (envG gDv) F (n+49)) = C
            have htt : C.tt = (envG gDv).tt := by rw [← hC]; rfl
            have hlin : C.lin = [104, 94, 54, 42, 6, 1000024] := by rw [← hC]; rfl
            have hreg : C.reg = reg7 := by rw [← hC]; rfl
            have hcall : C.call = callN (envG gDv) F (n+49) := by rw [← hC]; rfl
            have hcallP : C.callP = callP (envG gDv) F (n+49) := by rw [← hC]; rfl
            clear hC
            simp [-List.reduceReplicate, htt, hlin, hreg, reg7, hcall, hcallP, hu, kN, kR, kS1, kFl, h1, h2, e1, e2, e3, e4, hl', ptr_eq0, ptr_eq1]
          · have kFb := kFb (by omega)
            have kSb := kSb (by omega)
            clear kFl kS0 kS1
            rw [callN_run (fn := Tryd.f7) rfl rfl rfl (by simp [Tryd.ntmps7])]
            generalize hC : (envG gDv).ctx 7 (callN (envG gDv) F (n+49)) (callP (envG gDv) F (n+49)) = C
            have htt : C.tt = (envG gDv).tt := by rw [← hC]; rfl
            have hlin : C.lin = [104, 94, 54, 42, 6, 1000024] := by rw [← hC]; rfl
            have hreg : C.reg = reg7 := by rw [← hC]; rfl
            have hcall : C.call = callN (envG gDv) F (n+49) := by rw [← hC]; rfl
            have hcallP : C.callP = callP (envG gDv) F (n+49) := by rw [← hC]; rfl
            clear hC
            simp [-List.reduceReplicate, htt, hlin, hreg, reg7, hcall, hcallP, hu, kN, kR, kSb, kFb, h1, h2, e1, e2, i0, i1, e3, e4, hl', ptr_eq0, ptr_eq1]
end Go.Proofs.YtjmcgdhekjkjfaaDoor
namespace Go.Proofs.YtjmcgdhekjkjfaaDoor
open Go.ChangeShapes Go.WideShapes Go.ChangeAt Go.RowKit Go.VM
set_option linter.unusedVariables false
theorem ownD : ownKnob Tryd.prog.godebug = none := by kernel_rfl
theorem laidOutD : laidOutB Tryd.prog = true := by kernel_rfl
theorem gDv_ok : EnvOk Tryd.prog (envG gDv) := envOk gDv (fun f args r h => by
  simp only [gDv] at h
  cases h)
def dvData {H : Type} : List (String × DataW H) := [("math/bits.deBruijn64tab", Rows.laid_math_bits_deBruijn64tab)]
theorem rep_dv' {W : World} (h : laidMet Tryd.prog dvData W) : ∀ g cs, gDv.glob g = some cs → RepC W noOwn g 0 cs := by
  intro g cs hg
  simp only [gDv] at hg
  split at hg
  · rename_i hb
    have hb := Nat.eq_of_beq_eq_true hb
    subst hb; cases hg
    exact rep_laid h (n := "math/bits.deBruijn64tab") (d := Rows.laid_math_bits_deBruijn64tab) (by simp [dvData]) (by kernel_rfl) (t := 205) (by kernel_rfl) (m := 9) (k := 9) (by kernel_rfl) (by kernel_rfl) (by kernel_rfl)
  · cases hg
theorem rep_dv {W : World} (h : laidMetH Tryd.prog dvData W) : ∀ g cs, gDv.glob g = some cs → RepC W noOwn g 0 cs := by
  have h' : laidMet Tryd.prog dvData W := h
  exact rep_dv' h'
noncomputable def dvWorld (os : Os) : World := (World.holding Tryd.prog os ⟨#[], #[], []⟩).layVars Tryd.prog dvData
theorem dvWorld_met (os : Os) (args : Array Value) : laidMetH Tryd.prog dvData ((dvWorld os).forCall (fun _ _ => 0) ⟨#[], args, []⟩).memory :=
  laidMetH_of_parts (laidMet_of_run' 12 (by kernel_rfl) (by kernel_rfl)) (by kernel_rfl)
end Go.Proofs.YtjmcgdhekjkjfaaDoor
