/- What prim.Small and the reference's Small hand back. -/
import Derived.Test.YtjmcgdhekjkjfaaSD
import Derived.Test.YtjmcgdhekjkjfaaVMR
set_option linter.unusedSimpArgs false
set_option linter.unusedVariables false
namespace Go.Proofs.Ytjmcgdhekjkjfaa
open Go Go.VM
variable {G : GE}
set_option maxRecDepth 100000
set_option maxHeartbeats 4000000

/-- The number that bytes are. -/
def val (v : Int) : List Int → Int
  | [] => v
  | x :: t => val (v * 256 + x) t

theorem loop_small {m : Nat} {C : Ctx} {F : Nat} (hC : (envG G).ctx 32 (callN (envG G) F (m)) (callP (envG G) F (m)) = C) {c : Code} (hc : loopAt 8 Try.f32 = some c) (nl : Bool) (ys : List Int) (hy : ys.length ≤ 4) :
    ∀ (rest : List Int) (i k : Nat) (v : Int) (st : St), ys.drop i = rest → i ≤ ys.length → (∀ x ∈ rest, 0 ≤ x ∧ x < 256) → 0 ≤ v → v < 256 ^ i → rest.length < k →
      st.trim 0 [6, 21, 22, 23] = ⟨[(6, .d (.int .i64 v)), (21, .d (.nums .u8 nl ys)), (22, .d (.int .i64 ys.length)), (23, .d (.int .i64 i))], [], []⟩ →
      iter (ev C F c) 0 [6, 21, 22, 23] [2, 3, 6] k st = some (.exit 0, ⟨[(6, .d (.int .i64 (val v rest)))], [], []⟩) := by
  have htt : C.tt = (envG G).tt := by rw [← hC]; rfl
  have hlin : C.lin = [] := by rw [← hC]; rfl
  have hreg : C.reg = reg32 := by rw [← hC]; rfl
  have hcall : C.call = callN (envG G) F (m) := by rw [← hC]; rfl
  have hcallP : C.callP = callP (envG G) F (m) := by rw [← hC]; rfl
  have hlv_8 : C.live 8 = [6, 21, 22, 23] := by rw [← hC]; rfl
  have hlv_100008 : C.live 100008 = [2, 3, 6] := by rw [← hC]; rfl
  have hev : ∀ st, ev C F c st = ev C F ((loopAt 8 Try.f32).getD .skip) st := fun st => by rw [hc]; rfl
  intro rest
  induction rest with
  | nil =>
    intro i k v st hd hi hb h0 hv hk hst
    obtain ⟨k, rfl⟩ : ∃ j, k = j + 1 := ⟨k - 1, by simp at hk; omega⟩
    have h0 : ys.length ≤ i := by simpa using hd
    have e0 : ¬ ((i : Int) < (ys.length : Int)) := by omega
    rw [iter_eq, hst, hev]
    simp [loopAt, findLoop, Try.f32, htt, hlin, hreg, reg32, hcall, hcallP, hlv_8, hlv_100008, e0, val]
  | cons b t ih =>
    intro i k v st hd hi hb h0 hv hk hst
    obtain ⟨k, rfl⟩ : ∃ j, k = j + 1 := ⟨k - 1, by simp at hk; omega⟩
    simp at hk
    have h1 : i < ys.length := by
      rcases Nat.lt_or_ge i ys.length with h | h
      · exact h
      · rw [List.drop_eq_nil_of_le h] at hd; cases hd
    have hbx : ys[i]? = some b := by
      have : (ys.drop i)[0]? = some b := by rw [hd]; rfl
      simpa using this
    have ht : ys.drop (i + 1) = t := by
      rw [← List.drop_drop, hd]; rfl
    obtain ⟨b0, b1⟩ := hb b (List.mem_cons_self ..)
    have hv2 : v < 256 ^ 3 := by
      have : (256 : Int) ^ i ≤ 256 ^ 3 := by
        have h3 : i ≤ 3 := by omega
        have := Nat.pow_le_pow_right (n := 256) (by omega) h3
        exact_mod_cast this
      omega
    have hv3 : v * 256 + b < 256 ^ (i + 1) := by
      rw [Int.pow_succ]; omega
    have e0 : (i : Int) < (ys.length : Int) := by omega
    have e1 : (i : Int) + 1 ≤ 9223372036854775807 := by omega
    have e2 : (-9223372036854775808 : Int) ≤ (i : Int) + 1 := by omega
    have e3 : (-9223372036854775808 : Int) ≤ v * 256 := by omega
    have e4 : v * 256 ≤ (9223372036854775807 : Int) := by omega
    have e5 : (-9223372036854775808 : Int) ≤ b := by omega
    have e6 : b ≤ (9223372036854775807 : Int) := by omega
    have ho := or_byte (v := v) (x := b) h0 (by omega) b0 b1
    rw [iter_eq, hst, hev]
    have ih' := fun st h => ih (i + 1) k (v * 256 + b) st ht (by omega) (fun x hx => hb x (List.mem_cons_of_mem _ hx)) (by omega) hv3 hk h
    simp [loopAt, findLoop, Try.f32, htt, hlin, hreg, reg32, hcall, hcallP, hlv_8, hlv_100008, e0, hbx, e1, e2, e3, e4, e5, e6, ho, val]
    simp at ih'
    exact ih' _ (by simp)

/-- The small number of a body, or what is amiss. -/
def small (xs : List Int) : Sum Int Int :=
  match numB xs with
  | .inl e => .inl e
  | .inr ys => if 4 < ys.length then .inl 3 else if 2147483647 < val 0 ys then .inl 3 else .inr (val 0 ys)

theorem numB_mem {xs ys : List Int} (h : numB xs = .inr ys) : ∀ x ∈ ys, x ∈ xs := by
  unfold numB at h
  repeat' split at h
  all_goals first | (cases h; done) | skip
  all_goals (cases h; intro x hx; simp_all)
theorem numB_bytes {xs ys : List Int} (h : numB xs = .inr ys) (hb : ∀ x ∈ xs, 0 ≤ x ∧ x < 256) : ∀ x ∈ ys, 0 ≤ x ∧ x < 256 :=
  fun x hx => hb x (numB_mem h x hx)

theorem numB_err {xs : List Int} {e : Int} (h : numB xs = .inl e) : e = 7 ∨ e = 2 := by
  unfold numB at h
  repeat' split at h
  all_goals first | (cases h; simp; done) | (cases h; done)

theorem t_Small (F n : Nat) (hF : 100 ≤ F) (nl : Bool) (xs : List Int) (hn : nl = true → xs = []) (hx : xs.length ≤ 140737488355328) (hb : ∀ x ∈ xs, 0 ≤ x ∧ x < 256) : callN (envG G) F (n+3) 32 [.d (.nums .u8 nl xs)] = some (match small xs with
    | .inl e => ⟨[.d (.int .i64 0), .d (err e)], []⟩
    | .inr v => ⟨[.d (.int .i64 v), .d .nilifc], []⟩) := by
  rw [callN_run (fn := Try.f32) rfl rfl rfl (by simp [Try.ntmps32])]
  generalize hC : (envG G).ctx 32 (callN (envG G) F (n+2)) (callP (envG G) F (n+2)) = C
  have htt : C.tt = (envG G).tt := by rw [← hC]; rfl
  have hlin : C.lin = [] := by rw [← hC]; rfl
  have hreg : C.reg = reg32 := by rw [← hC]; rfl
  have hcall : C.call = callN (envG G) F (n+2) := by rw [← hC]; rfl
  have hcallP : C.callP = callP (envG G) F (n+2) := by rw [← hC]; rfl
  have hlv_8 : C.live 8 = [6, 21, 22, 23] := by rw [← hC]; rfl
  have hlv_100008 : C.live 100008 = [2, 3, 6] := by rw [← hC]; rfl
  have a1 := t_Number (G := G) F n nl xs hn hx
  unfold small
  cases hnum : numB xs with
  | inl e =>
    rw [hnum] at a1
    unfold err at a1
    simp [htt, hlin, hreg, reg32, hcall, hcallP, hlv_8, hlv_100008, a1, err]
  | inr ys =>
    rw [hnum] at a1
    by_cases h4 : 4 < ys.length
    · have e4 : (4 : Int) < (ys.length : Int) := by omega
      simp [htt, hlin, hreg, reg32, hcall, hcallP, hlv_8, hlv_100008, a1, err, h4, e4]
    · have e4 : ¬ (4 : Int) < (ys.length : Int) := by omega
      have hL := fun st h => loop_small (G := G) hC rfl false ys (by omega) ys 0 F 0 st rfl (by omega) (numB_bytes hnum hb) (by omega) (by simp) (by omega) h
      by_cases hv : 2147483647 < val 0 ys
      · simp [htt, hlin, hreg, reg32, hcall, hcallP, hlv_8, hlv_100008, a1, err, h4, e4, ev_loop, hL, hv]
      · simp [htt, hlin, hreg, reg32, hcall, hcallP, hlv_8, hlv_100008, a1, err, h4, e4, ev_loop, hL, hv]
end Go.Proofs.Ytjmcgdhekjkjfaa

/- Numbers and their bytes: no program in sight. -/
set_option linter.unusedSimpArgs false
set_option linter.unusedVariables false
namespace Go.Proofs.Ytjmcgdhekjkjfaa
open Go Go.VM
set_option maxRecDepth 100000
set_option maxHeartbeats 4000000

/-- Without the noughts ahead. -/
def strip : List Int → List Int
  | [] => []
  | b :: t => if b = 0 then strip t else b :: t
theorem strip_len : ∀ xs : List Int, (strip xs).length ≤ xs.length
  | [] => by simp [strip]
  | b :: t => by
    unfold strip
    split
    · have := strip_len t; simp; omega
    · simp

/-- The body of a number, or that it is too long. -/
def numberOf (xs : List Int) : Sum Int (List Int) :=
  if 64 < (strip xs).length then .inl 2 else match strip xs with
    | [] => .inr [0]
    | b :: t => if 128 ≤ b then .inr (0 :: b :: t) else .inr (b :: t)

/-- How many noughts stand ahead. -/
def lead : List Int → Nat
  | [] => 0
  | b :: t => if b = 0 then lead t + 1 else 0
theorem drop_lead : ∀ xs : List Int, xs.drop (lead xs) = strip xs
  | [] => rfl
  | b :: t => by
    unfold lead strip
    split
    · simpa using drop_lead t
    · rfl
theorem lead_le : ∀ xs : List Int, lead xs ≤ xs.length
  | [] => by simp [lead]
  | b :: t => by
    unfold lead
    split
    · have := lead_le t; simp; omega
    · simp

def wrapB8 (x : Int) : Int := IntKind.u8.wrap x
theorem wrapB8_eq (x : Int) : wrapB8 x = x % 256 := by
  simp [wrapB8, IntKind.wrap, IntKind.signed, IntKind.bits]

/-- A small number's four bytes. -/
def four (n : Int) : List Int := [n / 16777216 % 256, n / 65536 % 256, n / 256 % 256, n % 256]

/-- A number's bytes, at most so many. -/
def dig : Nat → Int → List Int → List Int
  | 0, _, acc => acc
  | f + 1, m, acc => if 0 < m then dig f (m / 256) (m % 256 :: acc) else acc

theorem dig_len : ∀ (f : Nat) (m : Int) (acc : List Int), (dig f m acc).length ≤ acc.length + f
  | 0, m, acc => by simp [dig]
  | f + 1, m, acc => by
    unfold dig
    split
    · have := dig_len f (m / 256) (m % 256 :: acc)
      simp at this; omega
    · omega

theorem strip_head : ∀ {xs t : List Int} {b : Int}, strip xs = b :: t → b ≠ 0
  | [], t, b, h => by simp [strip] at h
  | c :: xs, t, b, h => by
    unfold strip at h
    split at h
    · exact strip_head h
    · cases h; assumption

theorem val_strip : ∀ l : List Int, val 0 (strip l) = val 0 l
  | [] => rfl
  | b :: t => by
    unfold strip
    split
    · rename_i h
      subst h
      rw [val_strip t]
      simp [val]
    · rfl
theorem strip_strip : ∀ l : List Int, strip (strip l) = strip l
  | [] => rfl
  | b :: t => by
    by_cases h : b = 0
    · simp [strip, h, strip_strip t]
    · simp [strip, h]

theorem strip_four {m : Int} (h0 : 0 ≤ m) (h1 : m ≤ 2147483647) : strip (four m) = dig 4 m [] := by
  unfold four
  by_cases a : m = 0
  · subst a; simp [strip, dig]
  · have p0 : 0 < m := by omega
    by_cases b : m < 256
    · have e1 : m / 16777216 % 256 = 0 := by omega
      have e2 : m / 65536 % 256 = 0 := by omega
      have e3 : m / 256 % 256 = 0 := by omega
      have e4 : ¬ m % 256 = 0 := by omega
      have e5 : ¬ 0 < m / 256 := by omega
      simp [strip, dig, e1, e2, e3, e4, e5, p0]
    · have p1 : 0 < m / 256 := by omega
      by_cases c : m < 65536
      · have e1 : m / 16777216 % 256 = 0 := by omega
        have e2 : m / 65536 % 256 = 0 := by omega
        have e3 : ¬ m / 256 % 256 = 0 := by omega
        have e5 : ¬ 0 < m / 256 / 256 := by omega
        simp [strip, dig, e1, e2, e3, e5, p0, p1]
      · have p2 : 0 < m / 256 / 256 := by omega
        by_cases d : m < 16777216
        · have e1 : m / 16777216 % 256 = 0 := by omega
          have e2 : ¬ m / 65536 % 256 = 0 := by omega
          have e5 : ¬ 0 < m / 256 / 256 / 256 := by omega
          have e6 : m / 256 / 256 % 256 = m / 65536 % 256 := by omega
          simp [strip, dig, e1, e2, e5, e6, p0, p1, p2]
        · have p3 : 0 < m / 256 / 256 / 256 := by omega
          have e1 : ¬ m / 16777216 % 256 = 0 := by omega
          have e6 : m / 256 / 256 % 256 = m / 65536 % 256 := by omega
          have e7 : m / 256 / 256 / 256 % 256 = m / 16777216 % 256 := by omega
          simp [strip, dig, e1, e6, e7, p0, p1, p2, p3]

theorem val_four {m : Int} (h0 : 0 ≤ m) (h1 : m ≤ 2147483647) : val 0 (four m) = m := by
  simp only [four, val]; omega

theorem numberOf_dig {m : Int} (h0 : 0 ≤ m) (h1 : m ≤ 2147483647) : ∃ ys, numberOf (four m) = .inr ys ∧ numberOf (dig 4 m []) = .inr ys ∧ small ys = .inr m ∧ ys.length ≤ 5 := by
  have hs := strip_four h0 h1
  have hs2 : strip (dig 4 m []) = dig 4 m [] := by rw [← hs, strip_strip]
  have hv : val 0 (dig 4 m []) = m := by rw [← hs, val_strip, val_four h0 h1]
  have hl := dig_len 4 m []
  simp only [List.length_nil, Nat.zero_add] at hl
  unfold numberOf
  rw [hs, hs2]
  have h64 : ¬ 64 < (dig 4 m []).length := by omega
  simp only [h64, if_false]
  cases hd : dig 4 m [] with
  | nil =>
    rw [hd] at hv
    simp [val] at hv
    exact ⟨[0], rfl, rfl, by rw [← hv]; simp [small, numB, val], by simp⟩
  | cons b t =>
    rw [hd] at hv hs2 hl
    have hb0 := strip_head hs2
    simp at hl
    have h4 : ¬ 4 < t.length + 1 := by omega
    have h6 : ¬ 64 < t.length + 1 := by omega
    have hm : ¬ 2147483647 < m := by omega
    by_cases h2 : 128 ≤ b
    · have h3 : ¬ b < 128 := by omega
      exact ⟨0 :: b :: t, by simp [h2], by simp [h2], by simp [small, numB, h3, h6, h4, hv, hm], by simp; omega⟩
    · refine ⟨b :: t, by simp [h2], by simp [h2], ?_, by simp; omega⟩
      cases t with
      | nil => simp [small, numB, h2, hb0, hv, hm]
      | cons c t =>
        simp at h4 h6
        have h6' : ¬ 64 < t.length + 1 + 1 := by omega
        have h4' : ¬ 4 < t.length + 1 + 1 := by omega
        simp [small, numB, h2, hb0, h6', h4', hv, hm]

theorem numberOf_bytes {m : Int} {ys : List Int} (h : numberOf (four m) = .inr ys) : ∀ x ∈ ys, 0 ≤ x ∧ x < 256 := by
  have hf : ∀ x ∈ four m, 0 ≤ x ∧ x < 256 := by
    intro x hx
    simp [four] at hx
    rcases hx with h | h | h | h <;> omega
  have hs : ∀ x ∈ strip (four m), 0 ≤ x ∧ x < 256 := fun x hx => hf x (by rw [← drop_lead] at hx; exact List.mem_of_mem_drop hx)
  unfold numberOf at h
  split at h
  · cases h
  · split at h
    · cases h; intro x hx; simp at hx; omega
    · rename_i b t he
      rw [he] at hs
      split at h
      · cases h
        intro x hx
        rcases List.mem_cons.1 hx with rfl | hx
        · omega
        · exact hs x hx
      · cases h; exact hs


end Go.Proofs.Ytjmcgdhekjkjfaa

/- What der's reader.element hands back. -/
set_option linter.unusedSimpArgs false
set_option linter.unusedVariables false
namespace Go.Proofs.Ytjmcgdhekjkjfaa
open Go Go.VM
variable {G : GE}
set_option maxRecDepth 100000
set_option maxHeartbeats 4000000

theorem t_delem (F : Nat) (hF : 1048580 < F) (b : List Int) (nl : Bool) (hnl : nl = true → b = []) (hb : ∀ c ∈ b, 0 ≤ c ∧ c < 256) (hlen : b.length ≤ 1048576) :
    ∀ (d e n i stop : Nat), d + e = 16 → stop ≤ b.length → i ≤ stop →
    callN (envG G) F (n + d + 3) 30 [.d (.agg [.nums .u8 nl b]), .d (.int .i64 i), .d (.int .i64 stop), .d (.int .i64 e)] = some ⟨elemV (elemB b d i stop), []⟩ := by
  intro d
  induction d with
  | zero =>
    intro e n i stop he hs hi
    have ks := fun c p => t_spot (G := G) F (n + 1) c p
    rw [callN_run (fn := Try.f30) rfl rfl rfl (by simp [Try.ntmps30])]
    generalize hC : (envG G).ctx 30 (callN (envG G) F (n+2)) (callP (envG G) F (n+2)) = C
    have htt : C.tt = (envG G).tt := by rw [← hC]; rfl
    have hlin : C.lin = [104, 75, 74, 17, 13, 14, 117, 108, 91, 79, 44, 32, 24, 10, 9, 110] := by rw [← hC]; rfl
    have hreg : C.reg = reg30 := by rw [← hC]; rfl
    have hcall : C.call = callN (envG G) F (n+2) := by rw [← hC]; rfl
    have hcallP : C.callP = callP (envG G) F (n+2) := by rw [← hC]; rfl
    have hlv_14 : C.live 14 = [3, 4, 8, 11, 12, 13] := by rw [← hC]; rfl
    have hlv_100014 : C.live 100014 = [8, 9, 10, 11, 13] := by rw [← hC]; rfl
    have hlv_200007 : C.live 200007 = [] := by rw [← hC]; rfl
    have hlv_250007 : C.live 250007 = [] := by rw [← hC]; rfl
    unfold spotD err at ks
    have h1 : (16 : Int) ≤ (e : Int) := by omega
    simp only [elemB, elemV, spotD, err, zeroT, Tlv.cells, Tlv.cellsL]
    simp [htt, hlin, hreg, reg30, hcall, hcallP, hlv_14, hlv_100014, hlv_200007, hlv_250007, ks, h1]
  | succ d ih =>
    intro e n i stop he hs hi
    have ks : ∀ c p, callN (envG G) F (n + d + 3) _ _ = _ := fun c p => t_spot (G := G) F (n + d + 2) c p
    have kl : callN (envG G) F (n + d + 3) _ _ = _ := t_dlength (G := G) F (n + d + 1) (by omega) b nl hb hlen (i + 1) stop hs (by omega)
    rw [show ((i + 1 : Nat) : Int) = (i : Int) + 1 by omega] at kl
    have kc : ∀ xs h, callN (envG G) F (n + d + 3) _ _ = _ := fun xs h => t_clone (G := G) F (n + d + 2) xs h
    have g0 := byteAt_ok hb i
    rw [show n + (d + 1) + 3 = n + d + 3 + 1 by omega]
    rw [callN_run (fn := Try.f30) rfl rfl rfl (by simp [Try.ntmps30])]
    generalize hC : (envG G).ctx 30 (callN (envG G) F (n+d+3)) (callP (envG G) F (n+d+3)) = C
    have htt : C.tt = (envG G).tt := by rw [← hC]; rfl
    have hlin : C.lin = [104, 75, 74, 17, 13, 14, 117, 108, 91, 79, 44, 32, 24, 10, 9, 110] := by rw [← hC]; rfl
    have hreg : C.reg = reg30 := by rw [← hC]; rfl
    have hcall : C.call = callN (envG G) F (n+d+3) := by rw [← hC]; rfl
    have hcallP : C.callP = callP (envG G) F (n+d+3) := by rw [← hC]; rfl
    have hlv_14 : C.live 14 = [3, 4, 8, 11, 12, 13] := by rw [← hC]; rfl
    have hlv_100014 : C.live 100014 = [8, 9, 10, 11, 13] := by rw [← hC]; rfl
    have hlv_200007 : C.live 200007 = [] := by rw [← hC]; rfl
    have hlv_250007 : C.live 250007 = [] := by rw [← hC]; rfl
    unfold spotD err at ks
    have h1 : ¬ (16 : Int) ≤ (e : Int) := by omega
    have e1 : (i : Int) + 1 ≤ 9223372036854775807 := by omega
    have e2 : (-9223372036854775808 : Int) ≤ (i : Int) + 1 := by omega
    simp only [elemB]
    by_cases c1 : stop ≤ i
    · have f1 : (stop : Int) ≤ (i : Int) := by omega
      rw [if_pos c1]
      simp only [elemV, spotD, err, zeroT, Tlv.cells, Tlv.cellsL]
      simp [htt, hlin, hreg, reg30, hcall, hcallP, hlv_14, hlv_100014, hlv_200007, hlv_250007, ks, h1, f1]
    · have f1 : ¬ (stop : Int) ≤ (i : Int) := by omega
      have r0 := byteAt_get (b := b) (i := i) (by omega)
      have hnf : nl = false := by
        cases nl with
        | false => rfl
        | true => rw [hnl rfl] at hs; simp at hs; omega
      have a1 := and31 g0
      have a2 := and32 g0
      rw [if_neg c1]
      by_cases c2 : byteAt b i % 32 = 31
      · rw [if_pos c2]
        rw [c2] at a1
        simp only [elemV, spotD, err, zeroT, Tlv.cells, Tlv.cellsL]
        simp [htt, hlin, hreg, reg30, hcall, hcallP, hlv_14, hlv_100014, hlv_200007, hlv_250007, ks, h1, f1, r0, a1]
      · rw [if_neg c2]
        have a3 : (byteAt b i).fdiv (2 ^ 6) = byteAt b i / 64 := Int.fdiv_eq_ediv_of_nonneg _ (by omega)
        simp at a3
        have e3 : byteAt b i / 64 ≤ 255 := by omega
        have e4 : 0 ≤ byteAt b i / 64 := by omega
        have e5 : byteAt b i / 64 ≤ 9223372036854775807 := by omega
        have e6 : (-9223372036854775808 : Int) ≤ byteAt b i / 64 := by omega
        have e7 : byteAt b i % 32 ≤ 9223372036854775807 := by omega
        have e8 : (-9223372036854775808 : Int) ≤ byteAt b i % 32 := by omega
        generalize hsp : spanB b (i + 1) stop = sp at *
        cases sp with
        | bad c p =>
          simp only [spanV, spotD, err] at kl
          simp only [elemV, spotD, err, zeroT, Tlv.cells, Tlv.cellsL]
          simp [htt, hlin, hreg, reg30, hcall, hcallP, hlv_14, hlv_100014, hlv_200007, hlv_250007, ks, h1, f1, r0, a1, a3, c2, e1, e2, e3, e4, e5, e6, e7, e8, kl]
        | ok ft =>
          obtain ⟨fr, to⟩ := ft
          have hp := spanB_ok hb hs hsp
          simp only [spanV] at kl ⊢
          by_cases c3 : byteAt b i / 32 % 2 = 1
          case neg =>
            have a4 := a2.2 c3
            rw [if_neg c3]
            have f2 : (fr : Int) ≤ (to : Int) := by omega
            have f3 : (to : Int) ≤ b.length := by omega
            have hll : ((b.take to).drop fr).length ≤ 140737488355328 := by simp; omega
            have hdt : (b.take to).drop fr = (b.drop fr).take (to - fr) := by rw [List.drop_take]
            rw [← hdt]
            have kc' := kc _ hll
            generalize hus : (b.take to).drop fr = us at *
            subst hnf
            simp only [elemV, Tlv.cells, Tlv.cellsL]
            simp [htt, hlin, hreg, reg30, hcall, hcallP, hlv_14, hlv_100014, hlv_200007, hlv_250007, ks, h1, f1, f2, f3, r0, a1, a3, a4, c2, e1, e2, e3, e4, e5, e6, e7, e8, kl, kc', hus]
          case pos =>
            have a4 : ¬ andI .u8 (byteAt b i) 32 = 0 := fun h => a2.1 h c3
            rw [if_pos c3]
            have hL := fun st h => loop_elem (G := G) hC rfl b nl e to (by omega) (by omega) (elemB b d) (fun fr hfr => by
                have := ih (e + 1) n fr to (by omega) (by omega) hfr
                simpa using this)
              (fun fr x nx h => by have := elemB_ok hb d fr to x nx (by omega) h; exact ⟨by have := this.lo; omega, this.hi⟩)
              (.int .i64 (byteAt b i / 64)) (.int .i64 (byteAt b i % 32)) (.bool true) (.nums .u8 true []) (to - fr) fr F [] st (by omega) (by omega) (by omega) (by simp; omega) h
            generalize kidsB (elemB b d) (to - fr) fr to = kr at *
            clear hC ih
            cases kr with
            | ok l =>
              simp at hL
              simp only [elemV, Tlv.cells]
              simp [htt, hlin, hreg, reg30, hcall, hcallP, hlv_14, hlv_100014, hlv_200007, hlv_250007, ks, h1, f1, r0, a1, a3, a4, c2, e1, e2, e3, e4, e5, e6, e7, e8, kl, ev_loop]
              rw [hL _ (by simp [Tlv.cellsL])]
              simp [htt, hlin, hreg, reg30, hcall, hcallP, hlv_14, hlv_100014, hlv_200007, hlv_250007]
            | bad c p =>
              have hL2 := fun st h => Classical.choose_spec (hL st h)
              simp at hL2
              simp only [elemV, spotD, err, zeroT, Tlv.cells, Tlv.cellsL] at hL2 ⊢
              simp [htt, hlin, hreg, reg30, hcall, hcallP, hlv_14, hlv_100014, hlv_200007, hlv_250007, ks, h1, f1, r0, a1, a3, a4, c2, e1, e2, e3, e4, e5, e6, e7, e8, kl, ev_loop]
              rw [(hL2 _ (by simp [Tlv.cellsL])).1]
              simp [htt, hlin, hreg, reg30, hcall, hcallP, hlv_14, hlv_100014, hlv_200007, hlv_250007]
              exact (hL2 _ (by simp [Tlv.cellsL])).2
end Go.Proofs.Ytjmcgdhekjkjfaa

/- What der.Parse hands back. -/
set_option linter.unusedSimpArgs false
set_option linter.unusedVariables false
namespace Go.Proofs.Ytjmcgdhekjkjfaa
open Go Go.VM
variable {G : GE}
set_option maxRecDepth 100000
set_option maxHeartbeats 4000000

/-- The error of what is amiss; a place below 0: it has none. -/
def atD (c p : Int) : D := if p < 0 then err c else spotD c p
def parseV : Res Tlv → List V
  | .ok x => [.d (.agg x.cells), .d .nilifc]
  | .bad c p => [.d (.agg zeroT.cells), .d (atD c p)]

theorem elemB_place : ∀ {b : List Int} {d i stop : Nat} {c p : Int}, elemB b d i stop = .bad c p → 0 ≤ p ∧ 1 ≤ c ∧ c ≤ 9 := by
  have hlen : ∀ {b : List Int} {i stop : Nat} {c p : Int}, lenB b i stop = .bad c p → 0 ≤ p ∧ 1 ≤ c ∧ c ≤ 9 := by
    intro b i stop c p h
    unfold lenB at h
    repeat' (split at h)
    all_goals (first | (injection h with h1 h2; omega) | cases h)
  have hsp : ∀ {b : List Int} {i stop : Nat} {c p : Int}, spanB b i stop = .bad c p → 0 ≤ p ∧ 1 ≤ c ∧ c ≤ 9 := by
    intro b i stop c p h
    unfold spanB at h
    split at h
    · rename_i hl; injection h with h1 h2; subst h1; subst h2; exact hlen hl
    · split at h
      · injection h with h1 h2; omega
      · cases h
  have hk : ∀ (g : Nat → Nat → Res (Tlv × Nat)), (∀ i t c p, g i t = .bad c p → 0 ≤ p ∧ 1 ≤ c ∧ c ≤ 9) → ∀ (k fr to : Nat) (c p : Int), kidsB g k fr to = .bad c p → 0 ≤ p ∧ 1 ≤ c ∧ c ≤ 9 := by
    intro g hg k
    induction k with
    | zero => intro fr to c p h; cases h
    | succ k ih =>
      intro fr to c p h
      simp only [kidsB] at h
      split at h
      · split at h
        · rename_i h1; injection h with h2 h3; subst h2; subst h3; exact hg _ _ _ _ h1
        · split at h
          · rename_i h1; injection h with h2 h3; subst h2; subst h3; exact ih _ _ _ _ h1
          · cases h
      · cases h
  intro b d
  induction d with
  | zero => intro i stop c p h; simp only [elemB] at h; injection h with h1 h2; omega
  | succ d ih =>
    intro i stop c p h
    simp only [elemB] at h
    split at h
    · injection h with h1 h2; omega
    split at h
    · injection h with h1 h2; omega
    split at h
    · rename_i h1; injection h with h2 h3; subst h2; subst h3; exact hsp h1
    split at h
    · split at h
      · rename_i h1; injection h with h2 h3; subst h2; subst h3; exact hk _ (fun i t c p h => ih h) _ _ _ _ _ h1
      · cases h
    · cases h

theorem t_Parse (F : Nat) (hF : 1048580 < F) (n : Nat) (b : List Int) (nl : Bool) (hnl : nl = true → b = []) (hb : ∀ c ∈ b, 0 ≤ c ∧ c < 256) :
    callN (envG G) F (n + 20) 19 [.d (.nums .u8 nl b)] = some ⟨parseV (parseB b), []⟩ := by
  have ks : ∀ c p, callN (envG G) F (n + 19) _ _ = _ := fun c p => t_spot (G := G) F (n + 18) c p
  have ke : b.length ≤ 1048576 → callN (envG G) F (n + 19) _ _ = _ := fun h => t_delem (G := G) F hF b nl hnl hb h 16 0 n 0 b.length (by omega) (by omega) (by omega)
  have kp := @elemB_place b 16 0 b.length
  have ko := fun x e => elemB_ok hb 16 0 b.length x e (Nat.le_refl _)
  rw [callN_run (fn := Try.f19) rfl rfl rfl (by simp [Try.ntmps19])]
  generalize hC : (envG G).ctx 19 (callN (envG G) F (n+19)) (callP (envG G) F (n+19)) = C
  have htt : C.tt = (envG G).tt := by rw [← hC]; rfl
  have hlin : C.lin = [] := by rw [← hC]; rfl
  have hreg : C.reg = reg19 := by rw [← hC]; rfl
  have hcall : C.call = callN (envG G) F (n+19) := by rw [← hC]; rfl
  have hcallP : C.callP = callP (envG G) F (n+19) := by rw [← hC]; rfl
  unfold parseB
  by_cases c1 : 1048576 < b.length
  · have f1 : (1048576 : Int) < b.length := by omega
    simp only [if_pos c1, parseV, atD, err, zeroT, Tlv.cells, Tlv.cellsL]
    simp [htt, hlin, hreg, reg19, hcall, hcallP, f1]
  · have f1 : ¬ (1048576 : Int) < b.length := by omega
    have ke' := ke (by omega)
    clear ke
    rw [if_neg c1]
    generalize elemB b 16 0 b.length = r at *
    cases r with
    | bad c p =>
      have hp := kp rfl
      simp only [elemV, spotD, err, zeroT, Tlv.cells, Tlv.cellsL] at ke'
      simp at ke'
      simp only [parseV, atD, if_neg (by omega : ¬ p < 0), spotD, err, zeroT, Tlv.cells, Tlv.cellsL]
      simp [htt, hlin, hreg, reg19, hcall, hcallP, f1, ke']
    | ok r =>
      obtain ⟨x, e⟩ := r
      have hx := ko x e rfl
      have hh := hx.hi
      clear ko kp hx
      obtain ⟨xc, xt, xm, xbn, xb, xkn, xks⟩ := x
      simp only [elemV, Tlv.cells] at ke'
      simp at ke'
      unfold spotD err at ks
      by_cases c2 : e < b.length
      · have f2 : (e : Int) < b.length := by omega
        simp only [if_pos c2, parseV, atD, spotD, err, zeroT, Tlv.cells, Tlv.cellsL, if_neg (by omega : ¬ (e : Int) < 0)]
        simp [htt, hlin, hreg, reg19, hcall, hcallP, f1, ke', f2, ks]
      · have f2 : ¬ (e : Int) < b.length := by omega
        simp only [if_neg c2, parseV, Tlv.cells]
        simp [htt, hlin, hreg, reg19, hcall, hcallP, f1, ke', f2, ks]
end Go.Proofs.Ytjmcgdhekjkjfaa

/- What the law's Code hands back. -/
set_option linter.unusedSimpArgs false
set_option linter.unusedVariables false
namespace Go.Proofs.Ytjmcgdhekjkjfaa
open Go Go.VM
variable {G : GE}
set_option maxRecDepth 100000
set_option maxHeartbeats 4000000

theorem loop_code {m : Nat} {C : Ctx} {F : Nat} (hC : (envG G).ctx 9 (callN (envG G) F (m)) (callP (envG G) F (m)) = C) {c : Code} (hc : loopAt 4 Try.f9 = some c) (q : Int) : ∀ (u : Nat) (i : Int) (k : Nat) (st : St), i + u = 22 → 1 ≤ i → u < k →
    st.trim 0 [0, 3] = ⟨[(0, .d (err q)), (3, .d (.int .i64 i))], [], []⟩ →
    iter (ev C F c) 0 [0, 3] [2] k st = if i ≤ q ∧ q ≤ 21 then some (.ret, ⟨[(2, .d (.int .i64 q))], [], []⟩) else some (.exit 0, ⟨[], [], []⟩) := by
  have htt : C.tt = (envG G).tt := by rw [← hC]; rfl
  have hlin : C.lin = [] := by rw [← hC]; rfl
  have hreg : C.reg = reg9 := by rw [← hC]; rfl
  have hcall : C.call = callN (envG G) F (m) := by rw [← hC]; rfl
  have hcallP : C.callP = callP (envG G) F (m) := by rw [← hC]; rfl
  have hlv_4 : C.live 4 = [0, 3] := by rw [← hC]; rfl
  have hlv_100004 : C.live 100004 = [2] := by rw [← hC]; rfl
  have hev : ∀ st, ev C F c st = ev C F ((loopAt 4 Try.f9).getD .skip) st := fun st => by rw [hc]; rfl
  unfold err
  intro u
  induction u with
  | zero =>
    intro i k st hu h1 hk hst
    obtain ⟨k, rfl⟩ : ∃ j, k = j + 1 := ⟨k - 1, by omega⟩
    have hc : i = 22 := by omega
    subst hc
    rw [if_neg (by omega)]
    rw [iter_eq, hst, hev]
    simp [loopAt, findLoop, Try.f9, htt, hlin, hreg, reg9, hcall, hcallP, hlv_4, hlv_100004]
  | succ u ih =>
    intro i k st hu h1 hk hst
    obtain ⟨k, rfl⟩ : ∃ j, k = j + 1 := ⟨k - 1, by omega⟩
    have e0 : i ≤ 21 := by omega
    have e0' : ¬ 21 < i := by omega
    have e1 : i + 1 ≤ 9223372036854775807 := by omega
    have e2 : -9223372036854775808 ≤ i + 1 := by omega
    have ih' := fun st h => ih (i + 1) k st (by omega) (by omega) (by omega) h
    by_cases hq : q = i
    · subst hq
      rw [if_pos (by omega)]
      rw [iter_eq, hst, hev]
      simp [loopAt, findLoop, Try.f9, htt, hlin, hreg, reg9, hcall, hcallP, hlv_4, hlv_100004, e0, e0', e1, e2]
    · have e3 : (i + 1 ≤ q ∧ q ≤ 21) ↔ (i ≤ q ∧ q ≤ 21) := by omega
      simp only [e3] at ih'
      rw [iter_eq, hst, hev]
      simp [loopAt, findLoop, Try.f9, htt, hlin, hreg, reg9, hcall, hcallP, hlv_4, hlv_100004, e0, e0', e1, e2, hq]
      exact ih' _ (by simp)

theorem loop_code2 {m : Nat} {C : Ctx} {F : Nat} (hC : (envG G).ctx 9 (callN (envG G) F (m)) (callP (envG G) F (m)) = C) {c : Code} (hc : loopAt 4 Try.f9 = some c) (q p : Int) : ∀ (u : Nat) (i : Int) (k : Nat) (st : St), i + u = 22 → 1 ≤ i → u < k →
    st.trim 0 [0, 3] = ⟨[(0, .d (spotD q p)), (3, .d (.int .i64 i))], [], []⟩ →
    iter (ev C F c) 0 [0, 3] [2] k st = some (.exit 0, ⟨[], [], []⟩) := by
  have htt : C.tt = (envG G).tt := by rw [← hC]; rfl
  have hlin : C.lin = [] := by rw [← hC]; rfl
  have hreg : C.reg = reg9 := by rw [← hC]; rfl
  have hcall : C.call = callN (envG G) F (m) := by rw [← hC]; rfl
  have hcallP : C.callP = callP (envG G) F (m) := by rw [← hC]; rfl
  have hlv_4 : C.live 4 = [0, 3] := by rw [← hC]; rfl
  have hlv_100004 : C.live 100004 = [2] := by rw [← hC]; rfl
  have hev : ∀ st, ev C F c st = ev C F ((loopAt 4 Try.f9).getD .skip) st := fun st => by rw [hc]; rfl
  unfold spotD err
  intro u
  induction u with
  | zero =>
    intro i k st hu h1 hk hst
    obtain ⟨k, rfl⟩ : ∃ j, k = j + 1 := ⟨k - 1, by omega⟩
    have hc : i = 22 := by omega
    subst hc
    rw [iter_eq, hst, hev]
    simp [loopAt, findLoop, Try.f9, htt, hlin, hreg, reg9, hcall, hcallP, hlv_4, hlv_100004]
  | succ u ih =>
    intro i k st hu h1 hk hst
    obtain ⟨k, rfl⟩ : ∃ j, k = j + 1 := ⟨k - 1, by omega⟩
    have e0 : i ≤ 21 := by omega
    have e0' : ¬ 21 < i := by omega
    have e1 : i + 1 ≤ 9223372036854775807 := by omega
    have e2 : -9223372036854775808 ≤ i + 1 := by omega
    have ih' := fun st h => ih (i + 1) k st (by omega) (by omega) (by omega) h
    rw [iter_eq, hst, hev]
    simp [loopAt, findLoop, Try.f9, htt, hlin, hreg, reg9, hcall, hcallP, hlv_4, hlv_100004, e0, e0', e1, e2]
    exact ih' _ (by simp)

theorem t_Code (F n : Nat) (hF : 22 < F) (q : Int) : callN (envG G) F (n+1) 9 [.d (err q)] = some ⟨[.d (.int .i64 (if 1 ≤ q ∧ q ≤ 21 then q else -1))], []⟩ := by
  rw [callN_run (fn := Try.f9) rfl rfl rfl (by simp [Try.ntmps9])]
  generalize hC : (envG G).ctx 9 (callN (envG G) F (n)) (callP (envG G) F (n)) = C
  have htt : C.tt = (envG G).tt := by rw [← hC]; rfl
  have hlin : C.lin = [] := by rw [← hC]; rfl
  have hreg : C.reg = reg9 := by rw [← hC]; rfl
  have hcall : C.call = callN (envG G) F (n) := by rw [← hC]; rfl
  have hcallP : C.callP = callP (envG G) F (n) := by rw [← hC]; rfl
  have hlv_4 : C.live 4 = [0, 3] := by rw [← hC]; rfl
  have hlv_100004 : C.live 100004 = [2] := by rw [← hC]; rfl
  have hL := fun st h => loop_code (G := G) hC rfl q 21 1 F st (by omega) (by omega) (by omega) h
  unfold err at hL ⊢
  simp [htt, hlin, hreg, reg9, hcall, hcallP, hlv_4, hlv_100004, ev_loop]
  by_cases hq : 1 ≤ q ∧ q ≤ 21
  · rw [if_pos hq] at hL ⊢
    rw [hL _ (by simp)]
    simp [htt, hlin, hreg, reg9, hcall, hcallP, hlv_4, hlv_100004]
  · rw [if_neg hq] at hL ⊢
    rw [hL _ (by simp)]
    simp [htt, hlin, hreg, reg9, hcall, hcallP, hlv_4, hlv_100004]

theorem t_Code_nil (F n : Nat) : callN (envG G) F (n+1) 9 [.d .nilifc] = some ⟨[.d (.int .i64 0)], []⟩ := by
  rw [callN_run (fn := Try.f9) rfl rfl rfl (by simp [Try.ntmps9])]
  generalize hC : (envG G).ctx 9 (callN (envG G) F (n)) (callP (envG G) F (n)) = C
  have htt : C.tt = (envG G).tt := by rw [← hC]; rfl
  have hlin : C.lin = [] := by rw [← hC]; rfl
  have hreg : C.reg = reg9 := by rw [← hC]; rfl
  have hcall : C.call = callN (envG G) F (n) := by rw [← hC]; rfl
  have hcallP : C.callP = callP (envG G) F (n) := by rw [← hC]; rfl
  have hlv_4 : C.live 4 = [0, 3] := by rw [← hC]; rfl
  have hlv_100004 : C.live 100004 = [2] := by rw [← hC]; rfl
  simp [htt, hlin, hreg, reg9, hcall, hcallP, hlv_4, hlv_100004]

theorem t_Code_spot (F n : Nat) (hF : 22 < F) (q p : Int) : callN (envG G) F (n+1) 9 [.d (spotD q p)] = some ⟨[.d (.int .i64 (-1))], []⟩ := by
  rw [callN_run (fn := Try.f9) rfl rfl rfl (by simp [Try.ntmps9])]
  generalize hC : (envG G).ctx 9 (callN (envG G) F (n)) (callP (envG G) F (n)) = C
  have htt : C.tt = (envG G).tt := by rw [← hC]; rfl
  have hlin : C.lin = [] := by rw [← hC]; rfl
  have hreg : C.reg = reg9 := by rw [← hC]; rfl
  have hcall : C.call = callN (envG G) F (n) := by rw [← hC]; rfl
  have hcallP : C.callP = callP (envG G) F (n) := by rw [← hC]; rfl
  have hlv_4 : C.live 4 = [0, 3] := by rw [← hC]; rfl
  have hlv_100004 : C.live 100004 = [2] := by rw [← hC]; rfl
  have hL := fun st h => loop_code2 (G := G) hC rfl q p 21 1 F st (by omega) (by omega) (by omega) h
  unfold spotD err at hL ⊢
  simp [htt, hlin, hreg, reg9, hcall, hcallP, hlv_4, hlv_100004, ev_loop]
  rw [hL _ (by simp)]
  simp [htt, hlin, hreg, reg9, hcall, hcallP, hlv_4, hlv_100004]
end Go.Proofs.Ytjmcgdhekjkjfaa

/- What is asked of elements, and what small numbers they are. -/
set_option linter.unusedSimpArgs false
set_option linter.unusedVariables false
namespace Go.Proofs.Ytjmcgdhekjkjfaa
open Go Go.VM
variable {G : GE}
set_option maxRecDepth 100000
set_option maxHeartbeats 4000000

theorem t_IsList (F n : Nat) (x1 x2 : Int) (x3 x4 : Bool) (x5 : List Int) (x6 : Bool) (x7 : List Tlv) (k : Int) :
    callN (envG G) F (n+1) 20 [.d (.agg [.int .i64 x1, .int .i64 x2, .bool x3, .nums .u8 x4 x5, .sl 5 x6 (Tlv.cellsL x7)]), .d (.int .i64 k)] = some ⟨[.d (.bool (decide (x1 = 0 ∧ x2 = 16 ∧ x3 = true ∧ (k < 0 ∨ (x7.length : Int) = k))))], []⟩ := by
  rw [callN_run (fn := Try.f20) rfl rfl rfl (by simp [Try.ntmps20])]
  generalize hC : (envG G).ctx 20 (callN (envG G) F (n)) (callP (envG G) F (n)) = C
  have htt : C.tt = (envG G).tt := by rw [← hC]; rfl
  have hlin : C.lin = [] := by rw [← hC]; rfl
  have hreg : C.reg = reg20 := by rw [← hC]; rfl
  have hcall : C.call = callN (envG G) F (n) := by rw [← hC]; rfl
  have hcallP : C.callP = callP (envG G) F (n) := by rw [← hC]; rfl
  have hl := cellsL_len x7
  by_cases h1 : x1 = 0
  · by_cases h2 : x2 = 16
    · cases x3
      · simp [htt, hlin, hreg, reg20, hcall, hcallP, h1, h2]
      · by_cases h3 : k < 0
        · simp [htt, hlin, hreg, reg20, hcall, hcallP, h1, h2, h3]
        · by_cases h4 : (x7.length : Int) = k
          · simp [htt, hlin, hreg, reg20, hcall, hcallP, h1, h2, h3, h4, hl]
          · simp [htt, hlin, hreg, reg20, hcall, hcallP, h1, h2, h3, h4, hl]
    · simp [htt, hlin, hreg, reg20, hcall, hcallP, h1, h2]
  · simp [htt, hlin, hreg, reg20, hcall, hcallP, h1]

theorem t_IsPlain (F n : Nat) (x1 x2 : Int) (x3 x4 : Bool) (x5 : List Int) (x6 : Bool) (x7 : List Tlv) (k : Int) :
    callN (envG G) F (n+1) 22 [.d (.agg [.int .i64 x1, .int .i64 x2, .bool x3, .nums .u8 x4 x5, .sl 5 x6 (Tlv.cellsL x7)]), .d (.int .i64 k)] = some ⟨[.d (.bool (decide (x1 = 0 ∧ x2 = k ∧ x3 = false)))], []⟩ := by
  rw [callN_run (fn := Try.f22) rfl rfl rfl (by simp [Try.ntmps22])]
  generalize hC : (envG G).ctx 22 (callN (envG G) F (n)) (callP (envG G) F (n)) = C
  have htt : C.tt = (envG G).tt := by rw [← hC]; rfl
  have hlin : C.lin = [] := by rw [← hC]; rfl
  have hreg : C.reg = reg22 := by rw [← hC]; rfl
  have hcall : C.call = callN (envG G) F (n) := by rw [← hC]; rfl
  have hcallP : C.callP = callP (envG G) F (n) := by rw [← hC]; rfl
  by_cases h1 : x1 = 0
  · by_cases h2 : x2 = k
    · cases x3 <;> simp [htt, hlin, hreg, reg22, hcall, hcallP, h1, h2]
    · simp [htt, hlin, hreg, reg22, hcall, hcallP, h1, h2]
  · simp [htt, hlin, hreg, reg22, hcall, hcallP, h1]

/-- The small number of a body; 0 of none. -/
def smallV (b : List Int) : Int := match small b with | .inl _ => 0 | .inr v => v
def smallOk (b : List Int) : Bool := match small b with | .inl _ => false | .inr _ => true

theorem t_SmallOf (F n : Nat) (hF : 100 ≤ F) (x1 x2 : Int) (x3 x4 : Bool) (x5 : List Int) (x6 : Bool) (x7 : List Tlv) (hn : x4 = true → x5 = []) (hx : x5.length ≤ 140737488355328) (hb : ∀ x ∈ x5, 0 ≤ x ∧ x < 256) :
    callN (envG G) F (n+4) 21 [.d (.agg [.int .i64 x1, .int .i64 x2, .bool x3, .nums .u8 x4 x5, .sl 5 x6 (Tlv.cellsL x7)])] = some ⟨(if x1 = 0 ∧ x2 = 2 ∧ x3 = false then [.d (.int .i64 (smallV x5)), .d (.bool (smallOk x5))] else [.d (.int .i64 0), .d (.bool false)]), []⟩ := by
  have k1 := t_IsPlain (G := G) F (n + 2) x1 x2 x3 x4 x5 x6 x7 2
  have k2 := t_Small (G := G) F n hF x4 x5 hn hx hb
  rw [callN_run (fn := Try.f21) rfl rfl rfl (by simp [Try.ntmps21])]
  generalize hC : (envG G).ctx 21 (callN (envG G) F (n+3)) (callP (envG G) F (n+3)) = C
  have htt : C.tt = (envG G).tt := by rw [← hC]; rfl
  have hlin : C.lin = [] := by rw [← hC]; rfl
  have hreg : C.reg = reg21 := by rw [← hC]; rfl
  have hcall : C.call = callN (envG G) F (n+3) := by rw [← hC]; rfl
  have hcallP : C.callP = callP (envG G) F (n+3) := by rw [← hC]; rfl
  have hlv_200004 : C.live 200004 = [] := by rw [← hC]; rfl
  have hlv_250004 : C.live 250004 = [] := by rw [← hC]; rfl
  by_cases h : x1 = 0 ∧ x2 = 2 ∧ x3 = false
  · rw [if_pos h]
    rw [decide_eq_true h] at k1
    unfold smallV smallOk
    cases hs : small x5 with
    | inl e =>
      rw [hs] at k2
      unfold err at k2
      simp [htt, hlin, hreg, reg21, hcall, hcallP, hlv_200004, hlv_250004, k1, k2]
    | inr v =>
      rw [hs] at k2
      simp [htt, hlin, hreg, reg21, hcall, hcallP, hlv_200004, hlv_250004, k1, k2]
  · rw [if_neg h]
    rw [decide_eq_false h] at k1
    simp [htt, hlin, hreg, reg21, hcall, hcallP, hlv_200004, hlv_250004, k1]
end Go.Proofs.Ytjmcgdhekjkjfaa
