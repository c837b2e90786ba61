/- What the law's own element hands back: for all names of some size, whose kinds are kinds. -/
import Derived.Test.YtmehkdomnhgmeaaT50
namespace Go.Proofs.Ytmehkdomnhgmeaa
open Go Go.VM
set_option linter.unusedSimpArgs false
set_option linter.unusedVariables false
set_option maxRecDepth 100000
set_option maxHeartbeats 4000000

theorem kind_byte {k : Int} (h : isKind k = true) : 0 ≤ k ∧ k ≤ 255 := by
  simp [isKind] at h; omega

def nodeV (nl : Bool) (ks : List (List D)) : List V := [.d (.int .i64 0), .d (.int .i64 16), .d (.bool true), .d (.nums .u8 true []), .d (.sl 5 nl ks)]
def zeroV : List V := [.d (.int .i64 0), .d (.int .i64 0), .d (.bool false), .d (.nums .u8 true []), .d (.sl 5 true [])]
def ownK (ks : List (List D)) : List Pl := match ks with | [] => [] | _ => [.b 1 4]

theorem loop38 {C : Ctx} (htt : C.tt = env.tt) (hlin : C.lin = [34]) (hl5 : C.live 200005 = []) {fuel : Nat} {c : Code} (hc : loopAt 3 Try.f38 = some c) (na : Bool) (a : List (Int × List Int)) (ha : a.length ≤ 1000) (hk : ∀ p ∈ a, isKind p.1 = true) :
    ∀ (us : List (Int × List Int)) (ks : List (List D)) (i k : Nat) (st : St), a.drop i = us → i ≤ a.length → ks.length + us.length ≤ 1000 → us.length < k →
      st.trim 2 [0, 2, 3, 4] = ⟨[(0, .d (.sl 2 na (rows a))), (2, .ptr 0 0), (3, .ptr 1 0), (4, .d (.int .i64 i))], [some (.cells false zeroV), some (.cells false (nodeV ks.isEmpty ks))], ownK ks⟩ →
      iter (ev C fuel c) 2 [0, 2, 3, 4] [2, 3] k st = some (.exit 0, ⟨[(2, .ptr 0 0), (3, .ptr 1 0)], [some (.cells false zeroV), some (.cells false (nodeV (ks ++ us.map partD).isEmpty (ks ++ us.map partD)))], ownK (ks ++ us.map partD)⟩) := by
  simp [loopAt, findLoop, Try.f38] at hc
  subst hc
  intro us
  induction us with
  | nil =>
    intro ks i k st hd hi hlen hk' hst
    obtain ⟨k, rfl⟩ : ∃ j, k = j + 1 := ⟨k - 1, by simp at hk'; omega⟩
    have h0 := drop_nil hd
    have e0 : ¬ ((i : Int) < (a.length : Int)) := by omega
    rw [iter_eq, hst]
    cases ks with
    | nil => simp [htt, hlin, e0, rows_len, ownK, nodeV, zeroV]
    | cons x ks => simp [htt, hlin, e0, rows_len, ownK, nodeV, zeroV]
  | cons x us ih =>
    intro ks i k st hd hi hlen hk' hst
    obtain ⟨k, rfl⟩ : ∃ j, k = j + 1 := ⟨k - 1, by simp at hk'; omega⟩
    simp at hk' hlen
    obtain ⟨hd2, hlt⟩ := drop_succ hd
    have ra := rows_at hd
    have hx : x ∈ a := by
      have := at_of_drop hd
      exact List.mem_of_getElem? this
    obtain ⟨b0, b1⟩ := kind_byte (hk x hx)
    have e0 : (i : Int) < (a.length : Int) := by omega
    have e1 : (i : Int) + 1 ≤ 9223372036854775807 := by omega
    have e2 : (-9223372036854775808 : Int) ≤ (i : Int) + 1 := by omega
    have ih' := fun st h => ih (ks ++ [partD x]) (i + 1) k st hd2 (by omega) (by simp; omega) hk' h
    rw [iter_eq, hst]
    obtain ⟨x1, x2⟩ := x
    simp only at b0 b1
    cases ks with
    | nil =>
      simp [ownK, nodeV, zeroV, partD, nodeD, leafD] at ih'
      simp [htt, hlin, hl5, e0, e1, e2, ra, rows_len, ownK, nodeV, zeroV, b0, b1, partD, nodeD, leafD, ih']
    | cons y ks =>
      simp at hlen
      have r1 : (ks.length + 1 + 1) * 72 ≤ 140737488355328 := by omega
      have r2 : ks.length + 1 + 1 ≤ 140737488355328 := by omega
      simp [ownK, nodeV, zeroV, partD, nodeD, leafD] at ih'
      simp [htt, hlin, hl5, e0, e1, e2, ra, rows_len, ownK, nodeV, zeroV, b0, b1, partD, nodeD, leafD, r1, r2, ih']

theorem t38 (fuel n : Nat) (na : Bool) (a : List (Int × List Int)) (ha : a.length ≤ 1000) (hk : ∀ p ∈ a, isKind p.1 = true) (hf : 1000 < fuel) :
    callN env fuel (n+1) 38 [.d (.sl 2 na (rows a))] = some ⟨[.d (.agg (nameD a))], []⟩ := by
  rw [callN_run (fn := Try.f38) rfl rfl rfl (by simp [Try.ntmps38])]
  generalize hC : env.ctx 38 (callN env fuel n) (callP env fuel n) = C
  have htt : C.tt = env.tt := by rw [← hC]; rfl
  have hlin : C.lin = [34] := by rw [← hC]; rfl
  have hl1 : C.live 3 = [0, 2, 3, 4] := by rw [← hC]; rfl
  have hl2 : C.live 100003 = [2, 3] := by rw [← hC]; rfl
  have hl5 : C.live 200005 = [] := by rw [← hC]; rfl
  have hL := fun st h => @loop38 C htt hlin hl5 fuel _ rfl na a ha hk a [] 0 fuel st rfl (by omega) (by simpa using ha) (by omega) h
  simp only [ownK, List.isEmpty_nil, List.nil_append, nodeV, zeroV] at hL
  unfold nameD nodeD
  cases a with
  | nil => simp [htt, hlin, ev_loop, hl1, hl2, hL, ownK]
  | cons x a => simp [htt, hlin, ev_loop, hl1, hl2, hL, ownK]
end Go.Proofs.Ytmehkdomnhgmeaa
