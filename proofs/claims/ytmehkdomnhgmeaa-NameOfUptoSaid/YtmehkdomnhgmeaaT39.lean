/- What name.Of hands back of a name's element. -/
import Derived.Test.YtmehkdomnhgmeaaT54
namespace Go.Proofs.Ytmehkdomnhgmeaa
open Go Go.VM
set_option linter.unusedSimpArgs false
set_option linter.unusedVariables false
set_option maxRecDepth 100000
set_option maxHeartbeats 4000000

def ownR (l : List (Int × List Int)) : List Pl := match l with | [] => [] | _ => [.t 4]

theorem part_at {l : List (Int × List Int)} {i : Nat} {p : Int × List Int} {t : List (Int × List Int)} (h : l.drop i = p :: t) : (l.map partD)[i]? = some (partD p) := by
  rw [List.getElem?_map, at_of_drop h]; rfl

theorem loop39 {C : Ctx} (htt : C.tt = env.tt) (hlin : C.lin = [4, 31]) {fuel m : Nat} (hfu : 200 ≤ fuel) (hcall : C.call = callN env fuel (m+21)) {c : Code} (hc : loopAt 5 Try.f39 = some c) (kn : Bool) (a : List (Int × List Int)) (ha : a.length ≤ 1000)
    (hl : ∀ p ∈ a, p.2.length ≤ 9223372036854775807) (hp : ∀ p ∈ a, partOk p = true) :
    ∀ (us rs : List (Int × List Int)) (i k : Nat) (st : St), a.drop i = us → i ≤ a.length → rs.length + us.length ≤ 1000 → us.length < k →
      st.trim 1 [4, 17, 18, 19] = ⟨[(4, .d (.sl 2 rs.isEmpty (rows rs))), (17, .d (.sl 5 kn (a.map partD))), (18, .d (.int .i64 a.length)), (19, .d (.int .i64 i))], [some (.cells false (nodeV kn (a.map partD)))], ownR rs⟩ →
      iter (ev C fuel c) 1 [4, 17, 18, 19] [2, 3, 4] k st = some (.exit 0, ⟨[(4, .d (.sl 2 (rs ++ us).isEmpty (rows (rs ++ us))))], [some (.cells false (nodeV kn (a.map partD)))], ownR (rs ++ us)⟩) := by
  simp [loopAt, findLoop, Try.f39] at hc
  subst hc
  intro us
  induction us with
  | nil =>
    intro rs i k st hd hi hlen hk' hst
    obtain ⟨k, rfl⟩ : ∃ j, k = j + 1 := ⟨k - 1, by simp at hk'; omega⟩
    have h0 := drop_nil hd
    have e0 : ¬ ((i : Int) < (a.length : Int)) := by omega
    rw [iter_eq, hst]
    cases rs with
    | nil => simp [htt, hlin, e0, ownR, nodeV]
    | cons x rs => simp [htt, hlin, e0, ownR, nodeV]
  | cons x us ih =>
    intro rs i k st hd hi hlen hk' hst
    obtain ⟨k, rfl⟩ : ∃ j, k = j + 1 := ⟨k - 1, by simp at hk'; omega⟩
    simp at hk' hlen
    obtain ⟨hd2, hlt⟩ := drop_succ hd
    have ra := part_at hd
    have hx : x ∈ a := List.mem_of_getElem? (at_of_drop hd)
    have hx2 := hl x hx
    have k1 := t55 fuel m hfu x (hp x hx) hx2
    have e0 : (i : Int) < (a.length : Int) := by omega
    have e1 : (i : Int) + 1 ≤ 9223372036854775807 := by omega
    have e2 : (-9223372036854775808 : Int) ≤ (i : Int) + 1 := by omega
    have ih' := fun st h => ih (rs ++ [x]) (i + 1) k st hd2 (by omega) (by simp; omega) hk' h
    obtain ⟨x1, x2⟩ := x
    have hpd : partD (x1, x2) = [.int .i64 0, .int .i64 17, .bool true, .nums .u8 true [], .sl 5 false [nodeD 16 false [leafD 6 [85, 4, x1], leafD 12 x2]]] := rfl
    rw [hpd] at ra k1
    rw [iter_eq, hst]
    cases rs with
    | nil =>
      simp [ownR, nodeV, rows] at ih'
      simp [htt, hlin, hcall, e0, e1, e2, ra, k1, ownR, nodeV, rows, ih']
    | cons y rs =>
      simp at hlen
      have r1 : (rs.length + 1 + 1) * 24 ≤ 140737488355328 := by omega
      have r2 : rs.length + 1 + 1 ≤ 140737488355328 := by omega
      simp [ownR, nodeV, rows] at ih'
      simp [htt, hlin, hcall, e0, e1, e2, ra, k1, ownR, nodeV, rows, r1, r2, ih']

theorem t39 (fuel n : Nat) (a : List (Int × List Int)) (ha : a.length ≤ 8) (hl : ∀ p ∈ a, p.2.length ≤ 9223372036854775807) (hp : ∀ p ∈ a, partOk p = true) (hf : 1000 < fuel) :
    callN env fuel (n+22) 39 [.d (.agg (nameD a))] = some ⟨[.d (.sl 2 a.isEmpty (rows a)), .d .nilifc], []⟩ := by
  rw [callN_run (fn := Try.f39) rfl rfl rfl (by simp [Try.ntmps39])]
  generalize hC : env.ctx 39 (callN env fuel (n+21)) (callP env fuel (n+21)) = C
  have htt : C.tt = env.tt := by rw [← hC]; rfl
  have hlin : C.lin = [4, 31] := by rw [← hC]; rfl
  have hcall : C.call = callN env fuel (n+21) := by rw [← hC]; rfl
  have hl1 : C.live 5 = [4, 17, 18, 19] := by rw [← hC]; rfl
  have hl2 : C.live 100005 = [2, 3, 4] := by rw [← hC]; rfl
  have k4 := fun c t m B kn ks tag many => t54 fuel (n+20) c t m B kn ks tag many
  have hL := fun st h => @loop39 C htt hlin fuel n (by omega) hcall _ rfl a.isEmpty a (by omega) hl hp a [] 0 fuel st rfl (by omega) (by simp; omega) (by omega) h
  simp only [ownR, List.isEmpty_nil, List.nil_append, nodeV] at hL
  have r0 : rows [] = [] := rfl
  rw [r0] at hL
  have e8 : ¬ ((8 : Int) < a.length) := by omega
  have e9 : (0 : Int) ≤ a.length := by omega
  have e10 : ¬ ((a.length : Int) < 0) := by omega
  cases a with
  | nil => simp [htt, hlin, hcall, ev_loop, hl1, hl2, hL, nameD, nodeD, k4, isB, rows_len]
  | cons x a =>
    simp only [List.length_cons] at ha
    have e8 : ¬ ((8 : Int) < (a.length : Int) + 1) := by omega
    have e9 : (0 : Int) ≤ (a.length : Int) + 1 := by omega
    have e10 : ¬ ((a.length : Int) + 1 < 0) := by omega
    simp [htt, hlin, hcall, ev_loop, hl1, hl2, hL, nameD, nodeD, k4, isB, rows_len, e8, e9, e10]
end Go.Proofs.Ytmehkdomnhgmeaa
