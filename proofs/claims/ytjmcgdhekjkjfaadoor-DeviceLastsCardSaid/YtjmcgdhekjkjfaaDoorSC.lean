/- The device's Flash, whatever it is handed. -/
import Derived.Test.YtjmcgdhekjkjfaaDoorSB
import Derived.Test.YtjmcgdhekjkjfaaDoorVMS
import Derived.Test.YtjmcgdhekjkjfaaDoorSA
import Derived.Test.YtjmcgdhekjkjfaaDoorVMU
set_option linter.unusedSimpArgs false
set_option linter.unusedVariables false
namespace Go.Proofs.YtjmcgdhekjkjfaaDoor
open Go Go.VM
variable {G : GE}
set_option maxRecDepth 100000
set_option maxHeartbeats 4000000
theorem t_cloneA (F n : Nat) (nl : Bool) (y : List Int) (hn : nl = true → y = []) (h : y.length ≤ 140737488355328) : callN (envG G) F (n+1) 71 [.d (.nums .u8 nl y)] = some ⟨[.d (.nums .u8 nl y)], [0]⟩ := by
  cases nl with
  | true => rw [hn rfl]; exact t_cloneN (G := G) F n
  | false => exact t_cloneF (G := G) F n y h
theorem t_dFlash (a b : D) (L : Nat) (f st l : Int) (off : Bool) (xs : List Int) (F n : Nat) (k : Int) (nl : Bool) (y : List Int) (hn : nl = true → y = []) (hy : y.length ≤ 140737488355328) : ∃ e a' b',
    callP (envG G) F (n+2) 31 [.ptr 0 0, .d (.int .i64 k), .d (.nums .u8 nl y)] [some (devB a b (.mu 1 0 L L 1) f off st l), some (.ints false .u8 xs)] [] = some ⟨[.d e], [], [some (devB a' b' (.mu 1 0 L L 1) f off st l), some (.ints false .u8 xs)], []⟩ := by
  have kc := t_cloneA (G := G) F n nl y hn hy
  have k2 := t_slot (G := G) F n k
  by_cases hi : k = 0 ∨ k = 1
  · rw [decide_eq_true hi] at k2
    by_cases h : 262144 < y.length
    · have e1 : (262144 : Int) < (y.length : Int) := by omega
      refine ⟨.ifc 36 (.int .i64 2), a, b, ?_⟩
      unfold devB
      rw [callP_run (fn := Tryd.f31) rfl rfl rfl (by simp [Tryd.ntmps31])]
      generalize hC : (envG G).ctx 31 (callN (envG G) F (n+1)) (callP (envG G) F (n+1)) = C
      have htt : C.tt = (envG G).tt := by rw [← hC]; rfl
      have hlin : C.lin = [] := by rw [← hC]; rfl
      have hreg : C.reg = reg31 := by rw [← hC]; rfl
      have hcall : C.call = callN (envG G) F (n+1) := by rw [← hC]; rfl
      have hcallP : C.callP = callP (envG G) F (n+1) := by rw [← hC]; rfl
      have hlv_200005 : C.live 200005 = [] := by rw [← hC]; rfl
      have hlv_250005 : C.live 250005 = [] := by rw [← hC]; rfl
      clear hC
      simp [htt, hlin, hreg, reg31, hcall, hcallP, hlv_200005, hlv_250005, k2, e1]
    · have e1 : ¬ (262144 : Int) < (y.length : Int) := by omega
      rcases hi with rfl | rfl
      · refine ⟨.nilifc, .nums .u8 nl y, b, ?_⟩
        unfold devB
        rw [callP_run (fn := Tryd.f31) rfl rfl rfl (by simp [Tryd.ntmps31])]
        generalize hC : (envG G).ctx 31 (callN (envG G) F (n+1)) (callP (envG G) F (n+1)) = C
        have htt : C.tt = (envG G).tt := by rw [← hC]; rfl
        have hlin : C.lin = [] := by rw [← hC]; rfl
        have hreg : C.reg = reg31 := by rw [← hC]; rfl
        have hcall : C.call = callN (envG G) F (n+1) := by rw [← hC]; rfl
        have hcallP : C.callP = callP (envG G) F (n+1) := by rw [← hC]; rfl
        have hlv_200005 : C.live 200005 = [] := by rw [← hC]; rfl
        have hlv_250005 : C.live 250005 = [] := by rw [← hC]; rfl
        clear hC
        simp [htt, hlin, hreg, reg31, hcall, hcallP, hlv_200005, hlv_250005, k2, e1, kc]
      · refine ⟨.nilifc, a, .nums .u8 nl y, ?_⟩
        unfold devB
        rw [callP_run (fn := Tryd.f31) rfl rfl rfl (by simp [Tryd.ntmps31])]
        generalize hC : (envG G).ctx 31 (callN (envG G) F (n+1)) (callP (envG G) F (n+1)) = C
        have htt : C.tt = (envG G).tt := by rw [← hC]; rfl
        have hlin : C.lin = [] := by rw [← hC]; rfl
        have hreg : C.reg = reg31 := by rw [← hC]; rfl
        have hcall : C.call = callN (envG G) F (n+1) := by rw [← hC]; rfl
        have hcallP : C.callP = callP (envG G) F (n+1) := by rw [← hC]; rfl
        have hlv_200005 : C.live 200005 = [] := by rw [← hC]; rfl
        have hlv_250005 : C.live 250005 = [] := by rw [← hC]; rfl
        clear hC
        simp [htt, hlin, hreg, reg31, hcall, hcallP, hlv_200005, hlv_250005, k2, e1, kc]
  · rw [decide_eq_false hi] at k2
    refine ⟨.ifc 36 (.int .i64 1), a, b, ?_⟩
    unfold devB
    rw [callP_run (fn := Tryd.f31) rfl rfl rfl (by simp [Tryd.ntmps31])]
    generalize hC : (envG G).ctx 31 (callN (envG G) F (n+1)) (callP (envG G) F (n+1)) = C
    have htt : C.tt = (envG G).tt := by rw [← hC]; rfl
    have hlin : C.lin = [] := by rw [← hC]; rfl
    have hreg : C.reg = reg31 := by rw [← hC]; rfl
    have hcall : C.call = callN (envG G) F (n+1) := by rw [← hC]; rfl
    have hcallP : C.callP = callP (envG G) F (n+1) := by rw [← hC]; rfl
    have hlv_200005 : C.live 200005 = [] := by rw [← hC]; rfl
    have hlv_250005 : C.live 250005 = [] := by rw [← hC]; rfl
    clear hC
    simp [htt, hlin, hreg, reg31, hcall, hcallP, hlv_200005, hlv_250005, k2]
end Go.Proofs.YtjmcgdhekjkjfaaDoor
set_option linter.unusedSimpArgs false
set_option linter.unusedVariables false
namespace Go.Proofs.YtjmcgdhekjkjfaaDoor
open Go Go.VM
set_option maxRecDepth 100000
set_option maxHeartbeats 8000000
def tabC : List D := [0, 1, 56, 2, 57, 49, 28, 3, 61, 58, 42, 50, 38, 29, 17, 4, 62, 47, 59, 36, 45, 43, 51, 22, 53, 39, 33, 30, 24, 18, 12, 5, 63, 55, 48, 27, 60, 41, 37, 16, 46, 35, 44, 21, 52, 32, 23, 11, 54, 26, 40, 15, 34, 20, 31, 10, 25, 14, 19, 9, 13, 8, 7, 6].map (.int .u8)
noncomputable def gDv : GE := { glob := fun g => match Nat.beq g 5 with | true => some tabC | false => none, ext := fun _ _ => none }
theorem up21_0 : callN (envG gDv) 200 40 23 [] = some ⟨[.d (.bool true)], []⟩ := by kernel_rfl
theorem up21 (F n : Nat) (hf : 200 ≤ F) (hn : 40 ≤ n) : callN (envG gDv) F n 23 [] = some ⟨[.d (.bool true)], []⟩ := callN_mono hf hn up21_0
end Go.Proofs.YtjmcgdhekjkjfaaDoor
set_option linter.unusedSimpArgs false
set_option linter.unusedVariables false
namespace Go.Proofs.YtjmcgdhekjkjfaaDoor
open Go Go.VM
set_option maxRecDepth 100000
set_option maxHeartbeats 8000000
theorem and_self64 {f : Int} (h : 0 ≤ f ∧ f < 18446744073709551616) : andI .u64 f f = f := by
  have h1 : (BitVec.ofInt 64 f).toNat = f.toNat := by
    rw [BitVec.toNat_ofInt]
    have : f % ((2 ^ 64 : Nat) : Int) = f := Int.emod_eq_of_lt h.1 (by simpa using h.2)
    rw [this]
  show IntKind.u64.wrap ((BitVec.ofInt 64 f &&& BitVec.ofInt 64 f).toNat : Int) = f
  rw [BitVec.and_self, h1]
  have : ((f.toNat : Nat) : Int) = f := Int.toNat_of_nonneg h.1
  rw [this]
  exact wrap_ok (by simp; omega) (by simp; omega)
theorem or_in64 (f x : Int) : 0 ≤ orI .u64 f x ∧ orI .u64 f x < 18446744073709551616 := by
  have : orI .u64 f x = ((BitVec.ofInt 64 f ||| BitVec.ofInt 64 x).toNat : Int) % 18446744073709551616 := rfl
  omega
theorem and_or64 {f : Int} (x : Int) (h : 0 ≤ f ∧ f < 18446744073709551616) : andI .u64 (orI .u64 f x) f = f := by
  have h1 : (BitVec.ofInt 64 f).toNat = f.toNat := by
    rw [BitVec.toNat_ofInt]
    have : f % ((2 ^ 64 : Nat) : Int) = f := Int.emod_eq_of_lt h.1 (by simpa using h.2)
    rw [this]
  have h2 : orI .u64 f x = ((BitVec.ofInt 64 f ||| BitVec.ofInt 64 x).toNat : Int) := by
    have e : orI .u64 f x = ((BitVec.ofInt 64 f ||| BitVec.ofInt 64 x).toNat : Int) % 18446744073709551616 := rfl
    have := (BitVec.ofInt 64 f ||| BitVec.ofInt 64 x).isLt
    omega
  show IntKind.u64.wrap ((BitVec.ofInt 64 (orI .u64 f x) &&& BitVec.ofInt 64 f).toNat : Int) = f
  have h3 : BitVec.ofInt 64 (orI .u64 f x) = BitVec.ofInt 64 f ||| BitVec.ofInt 64 x := by
    rw [h2, BitVec.ofInt_natCast, BitVec.ofNat_toNat]
    simp
  have h4 : (BitVec.ofInt 64 f ||| BitVec.ofInt 64 x) &&& BitVec.ofInt 64 f = BitVec.ofInt 64 f := by
    apply BitVec.eq_of_getLsbD_eq
    intro i hi
    simp only [BitVec.getLsbD_and, BitVec.getLsbD_or]
    cases (BitVec.ofInt 64 f).getLsbD i <;> cases (BitVec.ofInt 64 x).getLsbD i <;> rfl
  rw [h3, h4, h1]
  have : ((f.toNat : Nat) : Int) = f := Int.toNat_of_nonneg h.1
  rw [this]
  exact wrap_ok (by simp; omega) (by simp; omega)
theorem iter_trimK {B : St → Option (Ex × St)} {n : Nat} {live out : List Nat} {s s2 : St} (k : Nat) (h : s.trim n live = s2.trim n live) : iter B n live out k s = iter B n live out k s2 := by
  cases k with
  | zero => rfl
  | succ k => rw [iter_eq, iter_eq, h]
theorem un_neg (k : IntKind) (n : Int) : evUn .neg (.d (.int k n)) = some (.int k (k.wrap (0 - n))) := (rfl)
structure Deed where
  what : Int
  at' : Int
  bn : Bool
  body : List Int
def Deed.cells (d : Deed) : List D := [.int .i64 d.what, .int .i64 d.at', .nums .u8 d.bn d.body]
def Deed.ok (d : Deed) : Prop := (-9223372036854775808 ≤ d.what ∧ d.what ≤ 9223372036854775807) ∧ d.at' ≤ 9223372036854775807 ∧ (d.bn = true → d.body = [])
theorem t_pick (F n : Nat) (w k : Int) (hw : -9223372036854775808 ≤ w ∧ w ≤ 9223372036854775807) (hk : 1 ≤ k ∧ k ≤ 1000) : ∃ p : Nat, (p : Int) < k ∧ callN (envG gDv) F (n+1) 24 [.d (.int .i64 w), .d (.int .i64 k)] = some ⟨[.d (.int .i64 (p : Int))], []⟩ := by
  have k0 : ¬ k = 0 := by omega
  by_cases h : w < 0
  · obtain ⟨q, hq⟩ : ∃ q : Nat, -(w + 1) = q := ⟨(-(w + 1)).toNat, by omega⟩
    obtain ⟨p, hp⟩ : ∃ p : Nat, (q : Int).tmod k = p := ⟨((q : Int).tmod k).toNat, by have := Int.tmod_nonneg k (show (0 : Int) ≤ q by omega); omega⟩
    have hp2 : (p : Int) < k := by rw [← hp]; exact Int.tmod_lt_of_pos _ (by omega)
    refine ⟨p, hp2, ?_⟩
    have w1 : (-9223372036854775808 : Int) ≤ w + 1 := by omega
    have w2 : w + 1 ≤ 9223372036854775807 := by omega
    have e0 : (0 : Int) - (w + 1) = q := by omega
    have w3 : (q : Int) ≤ 9223372036854775807 := by omega
    have w4 : (-9223372036854775808 : Int) ≤ (q : Int) := by omega
    have w5 : (p : Int) ≤ 9223372036854775807 := by omega
    have w6 : (-9223372036854775808 : Int) ≤ (p : Int) := by omega
    rw [callN_run (fn := Tryd.f24) rfl rfl rfl (by simp [Tryd.ntmps24])]
    generalize hC : (envG gDv).ctx 24 (callN (envG gDv) F (n)) (callP (envG gDv) F (n)) = C
    have htt : C.tt = (envG gDv).tt := by rw [← hC]; rfl
    have hlin : C.lin = [] := by rw [← hC]; rfl
    have hreg : C.reg = reg24 := by rw [← hC]; rfl
    have hcall : C.call = callN (envG gDv) F (n) := by rw [← hC]; rfl
    have hcallP : C.callP = callP (envG gDv) F (n) := by rw [← hC]; rfl
    clear hC
    simp [htt, hlin, hreg, reg24, hcall, hcallP, un_neg, h, w1, w2, e0, hq, w3, w4, k0, hp, w5, w6]
  · obtain ⟨q, rfl⟩ : ∃ q : Nat, w = q := ⟨w.toNat, by omega⟩
    obtain ⟨p, hp⟩ : ∃ p : Nat, (q : Int).tmod k = p := ⟨((q : Int).tmod k).toNat, by have := Int.tmod_nonneg k (show (0 : Int) ≤ q by omega); omega⟩
    have hp2 : (p : Int) < k := by rw [← hp]; exact Int.tmod_lt_of_pos _ (by omega)
    refine ⟨p, hp2, ?_⟩
    have w5 : (p : Int) ≤ 9223372036854775807 := by omega
    have w6 : (-9223372036854775808 : Int) ≤ (p : Int) := by omega
    rw [callN_run (fn := Tryd.f24) rfl rfl rfl (by simp [Tryd.ntmps24])]
    generalize hC : (envG gDv).ctx 24 (callN (envG gDv) F (n)) (callP (envG gDv) F (n)) = C
    have htt : C.tt = (envG gDv).tt := by rw [← hC]; rfl
    have hlin : C.lin = [] := by rw [← hC]; rfl
    have hreg : C.reg = reg24 := by rw [← hC]; rfl
    have hcall : C.call = callN (envG gDv) F (n) := by rw [← hC]; rfl
    have hcallP : C.callP = callP (envG gDv) F (n) := by rw [← hC]; rfl
    clear hC
    simp [htt, hlin, hreg, reg24, hcall, hcallP, h, k0, hp, w5, w6]
theorem conv_mu {C : Ctx} (htt : C.tt = (envG gDv).tt) (st : St) (b L : Nat) (h : getB st b = some (.ints false .u8 (List.replicate L 0))) : convK C st (.slice 5) .str (.mu b 0 L L 1) = some (.d (.str (List.replicate L 0)), false) := by
  cases C
  cases htt
  simp only [convK, h]
  have e : (List.drop 0 (List.replicate L (0 : Int))).take L = List.replicate L 0 := by simp
  show some (V.d (.str ((List.drop 0 (List.replicate L (0 : Int))).take L)), false) = _
  rw [e]
theorem ptr_eqN {C : Ctx} (htt : C.tt = (envG gDv).tt) (o : Operand) (b f : Nat) : evBin C .eql 50 o (.const (.pointer none)) (.ptr b f) (.d .nilptr) = some (.bool false) := by
  cases C
  cases htt
  rfl
variable (L : Nat) (nl : Bool) (ds : List Deed)
def dvS (i : Int) (a b : D) (f : Int) (off : Bool) (st l : Int) (xs : List Int) : St :=
  ⟨[(0, .d (.int .i64 (L : Int))), (1, .d (.sl 3 nl (ds.map Deed.cells))), (5, .d (.bool true)), (6, .ptr 0 0), (8, .d (.int .u64 f)), (9, .d (.int .i64 i))], [some (devB a b (.mu 1 0 L L 1) f off st l), some (.ints false .u8 xs)], []⟩
theorem loop_dv1 {m : Nat} {C : Ctx} {F : Nat} (hC : (envG gDv).ctx 6 (callN (envG gDv) F (m+3)) (callP (envG gDv) F (m+3)) = C) {c : Code} (hc : loopAt 8 Tryd.f6 = some c) (hF : 5000 < F) (hL : L ≤ 65536) (i : Nat) (hi : i < 60) (x : Deed) (hx : ds[i]? = some x) (hok : x.ok) (a b : D) (f : Int) (hf : 0 ≤ f ∧ f < 18446744073709551616) (off : Bool) (st l : Int) (xs : List Int) (hxs : xs.length = L)
    (k : Nat) (s : St) (hst : s.trim 2 [0, 1, 5, 6, 8, 9] = dvS L nl ds i a b f off st l xs) :
    ∃ (a' b' : D) (f' : Int) (off' : Bool) (st' l' : Int) (xs' : List Int), (0 ≤ f' ∧ f' < 18446744073709551616) ∧ xs'.length = L ∧ iter (ev C F c) 2 [0, 1, 5, 6, 8, 9] [4, 5] (k+1) s = iter (ev C F c) 2 [0, 1, 5, 6, 8, 9] [4, 5] k (dvS L nl ds ((i : Int) + 1) a' b' f' off' st' l' xs') := by
  have htt : C.tt = (envG gDv).tt := by rw [← hC]; rfl
  have hlin : C.lin = [13, 5, 104, 4, 1000018] := by rw [← hC]; rfl
  have hreg : C.reg = reg6 := by rw [← hC]; rfl
  have hcall : C.call = callN (envG gDv) F (m+3) := by rw [← hC]; rfl
  have hcallP : C.callP = callP (envG gDv) F (m+3) := by rw [← hC]; rfl
  have hlv_8 : C.live 8 = [0, 1, 5, 6, 8, 9] := by rw [← hC]; rfl
  have hlv_100008 : C.live 100008 = [4, 5] := by rw [← hC]; rfl
  have hlv_200028 : C.live 200028 = [] := by rw [← hC]; rfl
  have hlv_250028 : C.live 250028 = [3000092, 3000097] := by rw [← hC]; rfl
  have hev : ∀ st, ev C F c st = ev C F ((loopAt 8 Tryd.f6).getD .skip) st := fun st => by rw [hc]; rfl
  have hlt : i < ds.length := (List.getElem?_eq_some_iff.1 hx).1
  obtain ⟨w, at', bn, y⟩ := x
  obtain ⟨ok1, ok2, ok3⟩ := hok
  simp only at ok1 ok2 ok3
  have i1 : (i : Int) < ((ds.map Deed.cells).length : Int) := by simpa using hlt
  have i2 : (i : Int) < 60 := by omega
  have i3 : (ds.map Deed.cells)[i]? = some [.int .i64 w, .int .i64 at', .nums .u8 bn y] := by rw [List.getElem?_map, hx]; rfl
  have i4 : (i : Int) + 1 ≤ 9223372036854775807 := by omega
  have i5 : (-9223372036854775808 : Int) ≤ (i : Int) + 1 := by omega
  have i6 : (0 : Int) ≤ (i : Int) := by omega
  have l1 : (L : Int) ≤ 9223372036854775807 := by omega
  have l2 : (L : Int) ≤ 281474976710656 := by omega
  unfold dvS at hst
  generalize hds : ds.map Deed.cells = dsc at *
  by_cases hlong : (5000 : Int) < y.length
  · refine ⟨a, b, f, off, st, l, xs, hf, hxs, ?_⟩
    unfold dvS
    rw [iter_eq, hst, hev, hds]
    unfold devB
    simp [loopAt, findLoop, Tryd.f6, htt, hlin, hreg, reg6, hcall, hcallP, hlv_8, hlv_100008, hlv_200028, hlv_250028, i1, i2, i3, i4, i5, i6, hlong]
    exact iter_trimK k (by simp)
  · have hy : y.length < F := by omega
    have hy2 : y.length ≤ 140737488355328 := by omega
    have kOn := t_On (G := gDv) a b xs L f off st l F (m+1)
    obtain ⟨p, _, kp⟩ := t_pick F (m+2) w 7 ok1 (by omega)
    by_cases p0 : p = 0
    · subst p0
      obtain ⟨e, off', xs', st', l', kOp, hx', ho⟩ := t_dWrite (G := gDv) a b L hL f st l off xs hxs F (m+1) at' bn y hy
      have hA := and_self64 hf
      have hf' := hf
      have hO : off = false → off' = true → xs' = List.replicate L 0 := fun h1 h2 => by
        rcases ho with h | ⟨_, h⟩
        · rw [h, h1] at h2; cases h2
        · exact h
      have kFu := t_Fuses (G := gDv) a b xs' L f off' st' l' F (m+1)
      have kOn2 := t_On (G := gDv) a b xs' L f off' st' l' F (m+1)
      have kRa := t_Ram (G := gDv) F (m+1) a b false xs' L hx' hL f off' st' l'
      refine ⟨a, b, f, off', st', l', xs', hf', hx', ?_⟩
      unfold dvS
      rw [iter_eq, hst, hev, hds]
      unfold devB at *
      cases off with
      | true =>
        clear kRa kOn2 hO
        simp [loopAt, findLoop, Tryd.f6, htt, hlin, hreg, reg6, hcall, hcallP, hlv_8, hlv_100008, hlv_200028, hlv_250028, i1, i2, i3, i4, i5, i6, hlong, kOn, kp, kOp, kFu, hA, l1, l2]
        exact iter_trimK k (by first | simp | rfl)
      | false =>
        cases off' with
        | false =>
          clear kRa hO
          simp [loopAt, findLoop, Tryd.f6, htt, hlin, hreg, reg6, hcall, hcallP, hlv_8, hlv_100008, hlv_200028, hlv_250028, i1, i2, i3, i4, i5, i6, hlong, kOn, kp, kOp, kFu, kOn2, hA, l1, l2]
          exact iter_trimK k (by first | simp | rfl)
        | true =>
          obtain rfl := hO rfl rfl
          have hcv : ∀ (q r : List Nat) (st : St), getB st 14 = some (.ints false .u8 (List.replicate L 0)) → convK (C.nolin q r) st (.slice 5) .str (.mu 14 0 L L 1) = some (.d (.str (List.replicate L 0)), false) := fun q r st h => conv_mu (C := C.nolin q r) htt st 14 L h
          simp [loopAt, findLoop, Tryd.f6, htt, hlin, hreg, reg6, hcall, hcallP, hlv_8, hlv_100008, hlv_200028, hlv_250028, i1, i2, i3, i4, i5, i6, hlong, kOn, kp, kOp, kFu, kOn2, hA, l1, l2, kRa, hcv]
          exact iter_trimK k (by first | simp | rfl)
    by_cases p1 : p = 1
    · subst p1
      obtain ⟨e, off', xs', st', l', kOp, hx', ho⟩ := t_dWrite (G := gDv) a b L hL f st l off xs hxs F (m+1) at' bn y hy
      have hA := and_self64 hf
      have hf' := hf
      have hO : off = false → off' = true → xs' = List.replicate L 0 := fun h1 h2 => by
        rcases ho with h | ⟨_, h⟩
        · rw [h, h1] at h2; cases h2
        · exact h
      have kFu := t_Fuses (G := gDv) a b xs' L f off' st' l' F (m+1)
      have kOn2 := t_On (G := gDv) a b xs' L f off' st' l' F (m+1)
      have kRa := t_Ram (G := gDv) F (m+1) a b false xs' L hx' hL f off' st' l'
      refine ⟨a, b, f, off', st', l', xs', hf', hx', ?_⟩
      unfold dvS
      rw [iter_eq, hst, hev, hds]
      unfold devB at *
      cases off with
      | true =>
        clear kRa kOn2 hO
        simp [loopAt, findLoop, Tryd.f6, htt, hlin, hreg, reg6, hcall, hcallP, hlv_8, hlv_100008, hlv_200028, hlv_250028, i1, i2, i3, i4, i5, i6, hlong, kOn, kp, kOp, kFu, hA, l1, l2]
        exact iter_trimK k (by first | simp | rfl)
      | false =>
        cases off' with
        | false =>
          clear kRa hO
          simp [loopAt, findLoop, Tryd.f6, htt, hlin, hreg, reg6, hcall, hcallP, hlv_8, hlv_100008, hlv_200028, hlv_250028, i1, i2, i3, i4, i5, i6, hlong, kOn, kp, kOp, kFu, kOn2, hA, l1, l2]
          exact iter_trimK k (by first | simp | rfl)
        | true =>
          obtain rfl := hO rfl rfl
          have hcv : ∀ (q r : List Nat) (st : St), getB st 14 = some (.ints false .u8 (List.replicate L 0)) → convK (C.nolin q r) st (.slice 5) .str (.mu 14 0 L L 1) = some (.d (.str (List.replicate L 0)), false) := fun q r st h => conv_mu (C := C.nolin q r) htt st 14 L h
          simp [loopAt, findLoop, Tryd.f6, htt, hlin, hreg, reg6, hcall, hcallP, hlv_8, hlv_100008, hlv_200028, hlv_250028, i1, i2, i3, i4, i5, i6, hlong, kOn, kp, kOp, kFu, kOn2, hA, l1, l2, kRa, hcv]
          exact iter_trimK k (by first | simp | rfl)
    by_cases p2 : p = 2
    · subst p2
      obtain ⟨e, off', xs', st', l', f', kOp, hx', ho, hb⟩ := t_Burn (G := gDv) a b xs L f off st l F (m+1) hxs at'
      have hA : andI .u64 f' f = f := by
        rcases hb with rfl | ⟨j, _, rfl⟩
        · exact and_self64 hf
        · exact and_or64 _ hf
      have hf' : 0 ≤ f' ∧ f' < 18446744073709551616 := by
        rcases hb with rfl | ⟨j, _, rfl⟩
        · exact hf
        · exact or_in64 _ _
      have hO : off = false → off' = true → xs' = List.replicate L 0 := fun h1 h2 => by
        rcases ho with ⟨h, _⟩ | ⟨_, h⟩
        · rw [h, h1] at h2; cases h2
        · exact h
      clear hb
      have kFu := t_Fuses (G := gDv) a b xs' L f' off' st' l' F (m+1)
      have kOn2 := t_On (G := gDv) a b xs' L f' off' st' l' F (m+1)
      have kRa := t_Ram (G := gDv) F (m+1) a b false xs' L hx' hL f' off' st' l'
      refine ⟨a, b, f', off', st', l', xs', hf', hx', ?_⟩
      unfold dvS
      rw [iter_eq, hst, hev, hds]
      unfold devB at *
      cases off with
      | true =>
        clear kRa kOn2 hO
        simp [loopAt, findLoop, Tryd.f6, htt, hlin, hreg, reg6, hcall, hcallP, hlv_8, hlv_100008, hlv_200028, hlv_250028, i1, i2, i3, i4, i5, i6, hlong, kOn, kp, kOp, kFu, hA, l1, l2]
        exact iter_trimK k (by first | simp | rfl)
      | false =>
        cases off' with
        | false =>
          clear kRa hO
          simp [loopAt, findLoop, Tryd.f6, htt, hlin, hreg, reg6, hcall, hcallP, hlv_8, hlv_100008, hlv_200028, hlv_250028, i1, i2, i3, i4, i5, i6, hlong, kOn, kp, kOp, kFu, kOn2, hA, l1, l2]
          exact iter_trimK k (by first | simp | rfl)
        | true =>
          obtain rfl := hO rfl rfl
          have hcv : ∀ (q r : List Nat) (st : St), getB st 14 = some (.ints false .u8 (List.replicate L 0)) → convK (C.nolin q r) st (.slice 5) .str (.mu 14 0 L L 1) = some (.d (.str (List.replicate L 0)), false) := fun q r st h => conv_mu (C := C.nolin q r) htt st 14 L h
          simp [loopAt, findLoop, Tryd.f6, htt, hlin, hreg, reg6, hcall, hcallP, hlv_8, hlv_100008, hlv_200028, hlv_250028, i1, i2, i3, i4, i5, i6, hlong, kOn, kp, kOp, kFu, kOn2, hA, l1, l2, kRa, hcv]
          exact iter_trimK k (by first | simp | rfl)
    by_cases p3 : p = 3
    · subst p3
      obtain ⟨e, l', kOp, _, _⟩ := t_Cut (G := gDv) a b xs L f off st l F (m+1) at' ok2
      have hA := and_self64 hf
      have hf' := hf
      have hx' := hxs
      have hO := hf
      have kFu := t_Fuses (G := gDv) a b xs L f off st l' F (m+1)
      have kOn2 := t_On (G := gDv) a b xs L f off st l' F (m+1)
      have kRa := t_Ram (G := gDv) F (m+1) a b false xs L hx' hL f off st l'
      refine ⟨a, b, f, off, st, l', xs, hf', hx', ?_⟩
      unfold dvS
      rw [iter_eq, hst, hev, hds]
      unfold devB at *
      cases off with
      | true =>
        clear kRa kOn2 hO
        simp [loopAt, findLoop, Tryd.f6, htt, hlin, hreg, reg6, hcall, hcallP, hlv_8, hlv_100008, hlv_200028, hlv_250028, i1, i2, i3, i4, i5, i6, hlong, kOn, kp, kOp, kFu, hA, l1, l2]
        exact iter_trimK k (by first | simp | rfl)
      | false =>
        clear kRa hO
        simp [loopAt, findLoop, Tryd.f6, htt, hlin, hreg, reg6, hcall, hcallP, hlv_8, hlv_100008, hlv_200028, hlv_250028, i1, i2, i3, i4, i5, i6, hlong, kOn, kp, kOp, kFu, kOn2, hA, l1, l2]
        exact iter_trimK k (by first | simp | rfl)
    by_cases p4 : p = 4
    · subst p4
      have kOp := t_Power (G := gDv) a b xs L f off st l F (m+1)
      obtain ⟨l', hl'⟩ : ∃ l', l' = if off then 0 else l := ⟨_, rfl⟩
      rw [← hl'] at kOp
      clear hl'
      have hA := and_self64 hf
      have hf' := hf
      have hx' := hxs
      have hO := hf
      have kFu := t_Fuses (G := gDv) a b xs L f false st l' F (m+1)
      have kOn2 := t_On (G := gDv) a b xs L f false st l' F (m+1)
      have kRa := t_Ram (G := gDv) F (m+1) a b false xs L hx' hL f false st l'
      refine ⟨a, b, f, false, st, l', xs, hf', hx', ?_⟩
      unfold dvS
      rw [iter_eq, hst, hev, hds]
      unfold devB at *
      cases off with
      | true =>
        clear kRa kOn2 hO
        simp [loopAt, findLoop, Tryd.f6, htt, hlin, hreg, reg6, hcall, hcallP, hlv_8, hlv_100008, hlv_200028, hlv_250028, i1, i2, i3, i4, i5, i6, hlong, kOn, kp, kOp, kFu, hA, l1, l2]
        exact iter_trimK k (by first | simp | rfl)
      | false =>
        clear kRa hO
        simp [loopAt, findLoop, Tryd.f6, htt, hlin, hreg, reg6, hcall, hcallP, hlv_8, hlv_100008, hlv_200028, hlv_250028, i1, i2, i3, i4, i5, i6, hlong, kOn, kp, kOp, kFu, kOn2, hA, l1, l2]
        exact iter_trimK k (by first | simp | rfl)
    have n0 : ¬ (p : Int) = 0 := by omega
    have n1 : ¬ (p : Int) = 1 := by omega
    have n2 : ¬ (p : Int) = 2 := by omega
    have n3 : ¬ (p : Int) = 3 := by omega
    have n4 : ¬ (p : Int) = 4 := by omega
    obtain ⟨e, a', b', kOp⟩ := t_dFlash (G := gDv) a b L f st l off xs F (m+1) at' bn y ok3 hy2
    have hA := and_self64 hf
    have hf' := hf
    have hx' := hxs
    have hO := hf
    have kFu := t_Fuses (G := gDv) a' b' xs L f off st l F (m+1)
    have kOn2 := t_On (G := gDv) a' b' xs L f off st l F (m+1)
    have kRa := t_Ram (G := gDv) F (m+1) a' b' false xs L hx' hL f off st l
    refine ⟨a', b', f, off, st, l, xs, hf', hx', ?_⟩
    unfold dvS
    rw [iter_eq, hst, hev, hds]
    unfold devB at *
    cases off with
    | true =>
      clear kRa kOn2 hO
      simp [loopAt, findLoop, Tryd.f6, htt, hlin, hreg, reg6, hcall, hcallP, hlv_8, hlv_100008, hlv_200028, hlv_250028, i1, i2, i3, i4, i5, i6, hlong, kOn, kp, kOp, kFu, hA, l1, l2, p0, p1, p2, p3, p4, n0, n1, n2, n3, n4]
      exact iter_trimK k (by first | simp | rfl)
    | false =>
      clear kRa hO
      simp [loopAt, findLoop, Tryd.f6, htt, hlin, hreg, reg6, hcall, hcallP, hlv_8, hlv_100008, hlv_200028, hlv_250028, i1, i2, i3, i4, i5, i6, hlong, kOn, kp, kOp, kFu, kOn2, hA, l1, l2, p0, p1, p2, p3, p4, n0, n1, n2, n3, n4]
      exact iter_trimK k (by first | simp | rfl)
end Go.Proofs.YtjmcgdhekjkjfaaDoor
set_option linter.unusedSimpArgs false
set_option linter.unusedVariables false
namespace Go.Proofs.YtjmcgdhekjkjfaaDoor
open Go Go.VM
set_option maxRecDepth 100000
set_option maxHeartbeats 8000000
theorem loop_dv {m : Nat} {C : Ctx} {F : Nat} (hC : (envG gDv).ctx 6 (callN (envG gDv) F (m+3)) (callP (envG gDv) F (m+3)) = C) {c : Code} (hc : loopAt 8 Tryd.f6 = some c) (hF : 5000 < F) (L : Nat) (hL : L ≤ 65536) (nl : Bool) (ds : List Deed) (hds : ∀ d ∈ ds, d.ok) :
    ∀ (j i : Nat) (k : Nat) (s : St) (a b : D) (f : Int) (off : Bool) (st l : Int) (xs : List Int), (0 ≤ f ∧ f < 18446744073709551616) → xs.length = L → i + j = min 60 ds.length → j < k → s.trim 2 [0, 1, 5, 6, 8, 9] = dvS L nl ds i a b f off st l xs →
      ∃ (a' b' : D) (f' : Int) (off' : Bool) (st' l' : Int) (xs' : List Int), iter (ev C F c) 2 [0, 1, 5, 6, 8, 9] [4, 5] k s = some (.exit 0, ⟨[(5, .d (.bool true))], [some (devB a' b' (.mu 1 0 L L 1) f' off' st' l'), some (.ints false .u8 xs')], []⟩) := by
  intro j
  induction j with
  | zero =>
    intro i k s a b f off st l xs hf hxs hij hk hst
    obtain ⟨k, rfl⟩ : ∃ j, k = j + 1 := ⟨k - 1, by omega⟩
    refine ⟨a, b, f, off, st, l, xs, ?_⟩
    have htt : C.tt = (envG gDv).tt := by rw [← hC]; rfl
    have hlin : C.lin = [13, 5, 104, 4, 1000018] := by rw [← hC]; rfl
    have hreg : C.reg = reg6 := by rw [← hC]; rfl
    have hcall : C.call = callN (envG gDv) F (m+3) := by rw [← hC]; rfl
    have hcallP : C.callP = callP (envG gDv) F (m+3) := by rw [← hC]; rfl
    have hlv_8 : C.live 8 = [0, 1, 5, 6, 8, 9] := by rw [← hC]; rfl
    have hlv_100008 : C.live 100008 = [4, 5] := by rw [← hC]; rfl
    have hlv_200028 : C.live 200028 = [] := by rw [← hC]; rfl
    have hlv_250028 : C.live 250028 = [3000092, 3000097] := by rw [← hC]; rfl
    have hev : ∀ st, ev C F c st = ev C F ((loopAt 8 Tryd.f6).getD .skip) st := fun st => by rw [hc]; rfl
    show iter _ _ _ _ _ _ = _
    rw [iter_eq, hst, hev]
    unfold dvS devB
    by_cases h1 : ds.length ≤ i
    · have i1 : ¬ (i : Int) < (ds.length : Int) := by omega
      simp [loopAt, findLoop, Tryd.f6, htt, hlin, hreg, reg6, hcall, hcallP, hlv_8, hlv_100008, hlv_200028, hlv_250028, i1]
    · have i1 : (i : Int) < (ds.length : Int) := by omega
      have i2 : ¬ (i : Int) < 60 := by omega
      simp [loopAt, findLoop, Tryd.f6, htt, hlin, hreg, reg6, hcall, hcallP, hlv_8, hlv_100008, hlv_200028, hlv_250028, i1, i2]
  | succ j ih =>
    intro i k s a b f off st l xs hf hxs hij hk hst
    obtain ⟨k, rfl⟩ : ∃ j, k = j + 1 := ⟨k - 1, by omega⟩
    have hlt : i < ds.length := by omega
    have hx : ds[i]? = some ds[i] := List.getElem?_eq_getElem hlt
    obtain ⟨a', b', f', off', st', l', xs', h1, h2, h3⟩ := loop_dv1 L nl ds hC hc hF hL i (by omega) _ hx (hds _ (List.getElem_mem hlt)) a b f hf off st l xs hxs k s hst
    have e : ((i + 1 : Nat) : Int) = (i : Int) + 1 := by omega
    obtain ⟨a2, b2, f2, o2, s2, l2, x2, h4⟩ := ih (i + 1) k (dvS L nl ds ((i : Int) + 1) a' b' f' off' st' l' xs') a' b' f' off' st' l' xs' h1 h2 (by omega) (by omega) (by rw [e]; simp [dvS, devB])
    exact ⟨a2, b2, f2, o2, s2, l2, x2, h3.trans h4⟩
theorem t_NewN (F n : Nat) (L : Nat) (hr : L ≤ 65536) :
    callP (envG gDv) F (n+2) 25 [.d (.int .i64 (L : Int)), .d (.nums .u8 true []), .d (.nums .u8 true [])] [] [.t 1, .t 2] =
      some ⟨[.ptr 0 0, .d .nilifc], [], [some (devB (.nums .u8 true []) (.nums .u8 true []) (.mu 1 0 L L 1) 0 false 0 0), some (.ints false .u8 (List.replicate L 0))], []⟩ := by
  have k1 := t_cloneN (G := gDv) F n
  have e1 : ¬ (L : Int) < 0 := by omega
  have e2 : ¬ (65536 : Int) < L := by omega
  have e4 : (0 : Int) ≤ L := by omega
  have e5 : (L : Int) ≤ 9223372036854775807 := by omega
  have e6 : (L : Int) ≤ 281474976710656 := by omega
  unfold devB
  rw [callP_run (fn := Tryd.f25) rfl rfl rfl (by simp [Tryd.ntmps25])]
  generalize hC : (envG gDv).ctx 25 (callN (envG gDv) F (n+1)) (callP (envG gDv) F (n+1)) = C
  have htt : C.tt = (envG gDv).tt := by rw [← hC]; rfl
  have hlin : C.lin = [] := by rw [← hC]; rfl
  have hreg : C.reg = reg25 := by rw [← hC]; rfl
  have hcall : C.call = callN (envG gDv) F (n+1) := by rw [← hC]; rfl
  have hcallP : C.callP = callP (envG gDv) F (n+1) := by rw [← hC]; rfl
  have hlv_200005 : C.live 200005 = [] := by rw [← hC]; rfl
  have hlv_250005 : C.live 250005 = [] := by rw [← hC]; rfl
  clear hC
  simp [htt, hlin, hreg, reg25, hcall, hcallP, hlv_200005, hlv_250005, k1, e1, e2, e4, e5, e6]
theorem dl_law (F n : Nat) (hF : 5000 < F) (r : Int) (hr : -9223372036854775808 ≤ r ∧ r ≤ 9223372036854775807) (nl : Bool) (ds : List Deed) (hds : ∀ d ∈ ds, d.ok) :
    callN (envG gDv) F (n + 50) 6 [.d (.int .i64 r), .d (.sl 3 nl (ds.map Deed.cells))] = some ⟨[.d (.bool true)], []⟩ := by
  have hu := up21 F (n + 49) (by omega) (by omega)
  obtain ⟨L, hL, kp⟩ := t_pick F (n + 48) r 200 hr (by omega)
  have kN : callP (envG gDv) F (n + 49) _ _ _ _ = _ := t_NewN F (n + 47) L (by omega)
  rw [callN_run (fn := Tryd.f6) rfl rfl rfl (by simp [Tryd.ntmps6])]
  generalize hC : (envG gDv).ctx 6 (callN (envG gDv) F (n+49)) (callP (envG gDv) F (n+49)) = C
  have htt : C.tt = (envG gDv).tt := by rw [← hC]; rfl
  have hlin : C.lin = [13, 5, 104, 4, 1000018] := by rw [← hC]; rfl
  have hreg : C.reg = reg6 := by rw [← hC]; rfl
  have hcall : C.call = callN (envG gDv) F (n+49) := by rw [← hC]; rfl
  have hcallP : C.callP = callP (envG gDv) F (n+49) := by rw [← hC]; rfl
  have hlv_8 : C.live 8 = [0, 1, 5, 6, 8, 9] := by rw [← hC]; rfl
  have hlv_100008 : C.live 100008 = [4, 5] := by rw [← hC]; rfl
  have hlv_200028 : C.live 200028 = [] := by rw [← hC]; rfl
  have hlv_250028 : C.live 250028 = [3000092, 3000097] := by rw [← hC]; rfl
  have hS : (dvS L nl ds (0 : Int) (.nums .u8 true []) (.nums .u8 true []) 0 false 0 0 (List.replicate L 0)).trim 2 [0, 1, 5, 6, 8, 9] = dvS L nl ds (0 : Int) (.nums .u8 true []) (.nums .u8 true []) 0 false 0 0 (List.replicate L 0) := by simp [dvS, devB]
  obtain ⟨a', b', f', off', st', l', xs', hd⟩ := loop_dv (m := n + 46) hC rfl hF L (by omega) nl ds hds (min 60 ds.length) 0 F _ _ _ _ _ _ _ _ (by omega) (by simp) (by omega) (by omega) hS
  have hI := fun s h => (iter_trimK (s := s) F (Eq.trans h hS.symm)).trans hd
  clear hd hS hC
  unfold dvS at hI
  unfold devB at *
  generalize ds.map Deed.cells = dsc at *
  simp [htt, hlin, hreg, reg6, hcall, hcallP, hlv_8, hlv_100008, hlv_200028, hlv_250028, hu, kp, kN, ptr_eqN, ev_loop]
  rw [hI _ (by simp)]
  simp [htt, hlin, hreg, reg6, hcall, hcallP, hlv_8, hlv_100008, hlv_200028, hlv_250028]
end Go.Proofs.YtjmcgdhekjkjfaaDoor
set_option linter.unusedSimpArgs false
set_option linter.unusedVariables false
namespace Go.Proofs.YtjmcgdhekjkjfaaDoor
open Go Go.VM Go.RowKit
variable {G : GE}
theorem xfit_int {B f t : Nat} {k : IntKind} {i : TI} (ht : (envG G).tt t = some i) (hk : i.k = .int k) {ds : List D} (h : Fit (envG G).tt B f t ds) : ∃ n, ds = [.int k n] ∧ k.wrap n = n := by
  cases f with
  | zero => exact h.elim
  | succ f => simp only [Fit, ht, hk] at h; exact h
theorem xfit_bool {B f t : Nat} {i : TI} (ht : (envG G).tt t = some i) (hk : i.k = .bool) {ds : List D} (h : Fit (envG G).tt B f t ds) : ∃ b, ds = [.bool b] := by
  cases f with
  | zero => exact h.elim
  | succ f => simp only [Fit, ht, hk] at h; exact h
theorem xfit_nums {B f t e : Nat} {k : IntKind} {i j : TI} (ht : (envG G).tt t = some i) (hk : i.k = .slice e) (he : (envG G).tt e = some j) (hj : j.k = .int k) {ds : List D} (h : Fit (envG G).tt B f t ds) :
    ∃ nl xs, ds = [.nums k nl xs] ∧ (nl = true → xs = []) ∧ xs.length ≤ B ∧ ∀ x ∈ xs, k.wrap x = x := by
  cases f with
  | zero => exact h.elim
  | succ f => simp only [Fit, ht, hk, he, hj] at h; exact h
theorem xfit_str {B f t : Nat} {i : TI} (ht : (envG G).tt t = some i) (hk : i.k = .str) {ds : List D} (h : Fit (envG G).tt B f t ds) : ∃ l, ds = [.str l] ∧ l.length ≤ B ∧ ∀ c ∈ l, 0 ≤ c ∧ c < 256 := by
  cases f with
  | zero => exact h.elim
  | succ f => simp only [Fit, ht, hk] at h; exact h
theorem xfit_sl {B f t e : Nat} {i j : TI} {fs : List (Nat × Nat)} (ht : (envG G).tt t = some i) (hk : i.k = .slice e) (he : (envG G).tt e = some j) (hj : j.k = .struct fs) {ds : List D} (h : Fit (envG G).tt B f t ds) :
    ∃ f' nl xs, ds = [.sl j.size nl xs] ∧ (nl = true → xs = []) ∧ xs.length ≤ B ∧ ∀ c ∈ xs, c.length = j.size ∧ Fit (envG G).tt B f' e c := by
  cases f with
  | zero => exact h.elim
  | succ f => simp only [Fit, ht, hk, he, hj] at h; exact ⟨f, h⟩
theorem xfit_sl2 {B f t e e' : Nat} {i j : TI} (ht : (envG G).tt t = some i) (hk : i.k = .slice e) (he : (envG G).tt e = some j) (hj : j.k = .slice e') {ds : List D} (h : Fit (envG G).tt B f t ds) :
    ∃ f' nl xs, ds = [.sl j.size nl xs] ∧ (nl = true → xs = []) ∧ xs.length ≤ B ∧ ∀ c ∈ xs, c.length = j.size ∧ Fit (envG G).tt B f' e c := by
  cases f with
  | zero => exact h.elim
  | succ f => simp only [Fit, ht, hk, he, hj] at h; exact ⟨f, h⟩
theorem sl_in {H : Type} {enc : TypeId × Value → H} {W : World} {v : Value} {d : DataW H} {p : List MemPlace} {t : Nat} (O : EnvOk Tryd.prog (envG G)) {L : List Nat} (hL : closedB (envG G).tt L = true) (ht : t ∈ L) (hc : v.cells.toList = [v])
    (h : DataW.Trod enc Tryd.prog W 0 (fun _ => true) true t v d p) : ∃ (x : D) (B f : Nat), RepD W noOwn v x ∧ Fit (envG G).tt B f t [x] := by
  obtain ⟨fuel, hf⟩ := h
  obtain ⟨ds, ⟨g1, g2, g3⟩, hfit⟩ := open_any O.tt (L := L) hL (bulk d) fuel t _ _ ht hf (Nat.le_refl _)
  rw [hc] at g1 g2
  match ds, g1, hfit with
  | [x], _, hfit => exact ⟨x, bulk d, fuel, g2 0 v x rfl rfl, hfit⟩
theorem xagg_in {H : Type} {enc : TypeId × Value → H} {W : World} {arr : Array Value} {d : DataW H} {p : List MemPlace} {t : Nat} (O : EnvOk Tryd.prog (envG G)) {L : List Nat} (hL : closedB (envG G).tt L = true) (ht : t ∈ L)
    (h : DataW.Trod enc Tryd.prog W 0 (fun _ => true) true t (.agg arr) d p) : ∃ (ds : List D) (B f : Nat), RepD W noOwn (.agg arr) (.agg ds) ∧ Fit (envG G).tt B f t ds := by
  obtain ⟨fuel, hf⟩ := h
  obtain ⟨ds, ⟨g1, g2, g3⟩, hfit⟩ := open_any O.tt (L := L) hL (bulk d) fuel t _ _ ht hf (Nat.le_refl _)
  have e : (Value.agg arr).cells.toList = arr.toList := rfl
  rw [e] at g1 g2 g3
  refine ⟨ds, bulk d, fuel, .agg arr ds (by simpa using g1.symm) (fun j hj => ?_) (fun j y hy => ?_), hfit⟩
  · have : arr.getD j undef = arr.toList[j]'(by simpa using hj) := by simp [Array.getD, hj]
    rw [this]
    exact g3 _ (List.getElem_mem _)
  · have hlt := (List.getElem?_eq_some_iff.1 hy).1
    rw [g1] at hlt
    have h1 : arr.toList[j]? = some (arr.getD j undef) := by
      have : j < arr.size := by simpa using hlt
      simp [Array.getD, this]
    exact g2 j _ y h1 hy
theorem xu8_of {xs : List Int} (h : ∀ x ∈ xs, IntKind.u8.wrap x = x) : ∀ c ∈ xs, 0 ≤ c ∧ c < 256 := fun c hc => by
  have := (wrap_iff .u8 c).1 (h c hc)
  simp [IntKind.min, IntKind.max, IntKind.bits, IntKind.signed] at this
  omega
theorem xi64_of {x : Int} (h : IntKind.i64.wrap x = x) : -9223372036854775808 ≤ x ∧ x ≤ 9223372036854775807 := by
  have := (wrap_iff .i64 x).1 h
  simp [IntKind.min, IntKind.max, IntKind.bits, IntKind.signed] at this
  omega
theorem all_map {α β : Type} {g : α → β} {P : α → Prop} : ∀ {l : List β}, (∀ c ∈ l, ∃ a, c = g a ∧ P a) → ∃ es : List α, l = es.map g ∧ ∀ a ∈ es, P a
  | [], _ => ⟨[], rfl, by simp⟩
  | c :: l, h => by
    obtain ⟨a, rfl, ha⟩ := h c (List.mem_cons_self ..)
    obtain ⟨es, rfl, has⟩ := all_map (l := l) (fun c hc => h c (List.mem_cons_of_mem _ hc))
    refine ⟨a :: es, rfl, fun b hb => ?_⟩
    rcases List.mem_cons.1 hb with rfl | hb
    · exact ha
    · exact has b hb
end Go.Proofs.YtjmcgdhekjkjfaaDoor
set_option linter.unusedSimpArgs false
set_option linter.unusedVariables false
namespace Go.Proofs.YtjmcgdhekjkjfaaDoor
open Go Go.VM Go.RowKit
theorem deed_fit {B f : Nat} {c : List D} (h : Fit (envG gDv).tt B f 55 c) : ∃ d : Deed, c = d.cells ∧ d.ok := by
  cases f with
  | zero => exact h.elim
  | succ f =>
    simp only [Fit, tt55] at h
    obtain ⟨hl, hp⟩ := h
    match c, hl, hp with
    | [d0, d1, d2], _, hp =>
      obtain ⟨_, q0, p0⟩ := hp (0, 3) (by simp)
      obtain ⟨_, q1, p1⟩ := hp (1, 3) (by simp)
      obtain ⟨_, q2, p2⟩ := hp (2, 22) (by simp)
      cases q0; cases q1; cases q2
      obtain ⟨v0, r0, w0⟩ := xfit_int (G := gDv) (k := .i64) (tt3 _) rfl p0
      obtain ⟨v1, r1, w1⟩ := xfit_int (G := gDv) (k := .i64) (tt3 _) rfl p1
      obtain ⟨n2, x, r2, w2, _, _⟩ := xfit_nums (G := gDv) (k := .u8) (tt22 _) rfl (tt5 _) rfl p2
      simp at r0 r1 r2
      subst r0 r1 r2
      exact ⟨⟨v0, v1, n2, x⟩, rfl, xi64_of w0, (xi64_of w1).2, w2⟩
theorem deeds_fit {B f : Nat} {x : D} (h : Fit (envG gDv).tt B f 48 [x]) : ∃ (nl : Bool) (ds : List Deed), x = .sl 3 nl (ds.map Deed.cells) ∧ ∀ d ∈ ds, d.ok := by
  obtain ⟨f', nl, xs, e, _, _, hx⟩ := xfit_sl (G := gDv) (tt48 _) rfl (tt55 _) rfl h
  simp only [List.cons.injEq, and_true] at e
  subst e
  obtain ⟨ds, rfl, hd⟩ := all_map (g := Deed.cells) (P := Deed.ok) (l := xs) fun c hc => deed_fit (hx c hc).2
  exact ⟨nl, ds, rfl, hd⟩
end Go.Proofs.YtjmcgdhekjkjfaaDoor
