/- What the law's read hands back: for every element of some width. -/
import Derived.Test.YtmehkdomnhgmeaaT60
namespace Go.Proofs.Ytmehkdomnhgmeaa
open Go Go.VM
set_option linter.unusedSimpArgs false
set_option linter.unusedVariables false
set_option maxRecDepth 100000
set_option maxHeartbeats 8000000

def tailRead (bo bs : List Int) : (Int × List Int) × Bool :=
  match bo with
  | [u, v, k] => if u = 85 ∧ v = 4 ∧ textBad bs = 0 ∧ isKind k = true then ((k, bs), true) else noPart
  | _ => noPart
def readPart : Tlv → (Int × List Int) × Bool
  | .mk c t m _ _ _ ks => if isB c t m ks.length 17 1 = false then noPart else match ks with
    | [.mk c2 t2 m2 _ _ _ ks2] => if isB c2 t2 m2 ks2.length 16 2 = false then noPart else match ks2 with
      | [.mk co to mo _ bo _ kso, .mk cs ts ms _ bs _ kss] => if isB co to mo kso.length 6 (-1) = false then noPart else if isB cs ts ms kss.length 12 (-1) = false then noPart else tailRead bo bs
      | _ => noPart
    | _ => noPart

theorem isB_many {c t : Int} {m : Bool} {n : Nat} {tag many : Int} (h : 0 ≤ many) : isB c t m n tag many = decide (c = 0 ∧ t = tag ∧ m = true ∧ (n : Int) = many) := by
  have h1 : ¬ (many < 0) := by omega
  simp [isB, h, h1]
theorem isB_none {c t : Int} {m : Bool} {n : Nat} {tag : Int} : isB c t m n tag (-1) = decide (c = 0 ∧ t = tag ∧ m = false) := by
  simp [isB]

theorem len_two {α : Type} : ∀ {l : List α}, l.length = 2 → ∃ x y, l = [x, y]
  | [x, y], _ => ⟨x, y, rfl⟩
theorem len_three {α : Type} : ∀ {l : List α}, l.length = 3 → ∃ x y z, l = [x, y, z]
  | [x, y, z], _ => ⟨x, y, z, rfl⟩

theorem text1 (F m : Nat) (nl : Bool) (s : List Int) (hs : s.length ≤ 9223372036854775807) (hf : 64 < F) :
    callN env F (m+1) 52 [.d (.nums .u8 nl s)] = some ⟨[.d (.str (if textBad s = 0 then s else [])), .d (.int .i64 (textBad s))], []⟩ := by
  rw [t52 F m nl s hs hf]
  split
  · rename_i h; rw [h]
  · rfl

theorem loop42 {C : Ctx} (htt : C.tt = env.tt) (hlin : C.lin = [4, 152]) {F m B : Nat} (hB : B ≤ 1000000) (hBF : B < F) (hF : 200 ≤ F) (hcall : C.call = callN env F (m+1)) {c : Code} (hc : loopAt 5 Try.f42 = some c) (p0 p1 p2 p3 : D) (kn : Bool) (a : List Tlv) (ha : a.length ≤ 1000000)
    (hw : ∀ x ∈ a, x.width B) (hby : ∀ x ∈ a, x.bytesOk) :
    ∀ (us : List Tlv) (rs : List (Int × List Int)) (i k : Nat) (st : St), a.drop i = us → i ≤ a.length → rs.length + us.length ≤ 1000000 → us.length < k →
      st.trim 1 [1, 4, 5] = ⟨[(1, .ptr 0 0), (4, .d (.sl 2 rs.isEmpty (rows rs))), (5, .d (.int .i64 i))], [some (.cells false [.d p0, .d p1, .d p2, .d p3, .d (.sl 5 kn (Tlv.cellsL a))])], ownR rs⟩ →
      (okR readPart us = true ∧ iter (ev C F c) 1 [1, 4, 5] [2, 3, 4] k st = some (.exit 0, ⟨[(4, .d (.sl 2 (rs ++ preR readPart us).isEmpty (rows (rs ++ preR readPart us))))], [some (.cells false [.d p0, .d p1, .d p2, .d p3, .d (.sl 5 kn (Tlv.cellsL a))])], ownR (rs ++ preR readPart us)⟩)) ∨
      (okR readPart us = false ∧ ∃ (v : V) (bs : List (Option Blk)) (ow : List Pl), iter (ev C F c) 1 [1, 4, 5] [2, 3, 4] k st = some (.ret, ⟨[(2, .d (.sl 2 true [])), (3, .d (.int .i64 7)), (4, v)], bs, ow⟩) ∧ hasPl (.t 2) ow = false) := by
  have hev : ∀ st, ev C F c st = ev C F ((loopAt 5 Try.f42).getD .skip) st := fun st => by rw [hc]; rfl
  intro us
  induction us with
  | nil =>
    intro rs i k st hd hi hlen hk' hst
    obtain ⟨k, rfl⟩ : ∃ j, k = j + 1 := ⟨k - 1, by simp at hk'; omega⟩
    have h0 := drop_nil hd
    have e0 : ¬ ((i : Int) < (a.length : Int)) := by omega
    left
    refine ⟨rfl, ?_⟩
    rw [iter_eq, hst, hev]
    cases rs <;> simp [loopAt, findLoop, Try.f42, htt, hlin, e0, ownR, preR, cellsL_len]
  | cons x us ih =>
    intro rs i k st hd hi hlen hk' hst
    obtain ⟨k, rfl⟩ : ∃ j, k = j + 1 := ⟨k - 1, by simp at hk'; omega⟩
    simp at hk' hlen
    obtain ⟨hd2, hlt⟩ := drop_succ hd
    have ra := cellsL_at hd
    have hx : x ∈ a := List.mem_of_getElem? (at_of_drop hd)
    have hwx := hw x hx
    have hbx := hby x hx
    have e0 : (i : Int) < (a.length : Int) := by omega
    have e1 : (i : Int) + 1 ≤ 9223372036854775807 := by omega
    have e2 : (-9223372036854775808 : Int) ≤ (i : Int) + 1 := by omega
    have hb0 : hasPl (.t 2) (ownR rs) = false := by cases rs <;> rfl
    have d0 : ∀ f : Pl → Bool, f (.t 4) = false → dropPl f (ownR rs) = ownR rs := fun f hf => by cases rs with | nil => rfl | cons y rs => simp [ownR, dropPl, hf]
    have d2 : ∀ s d, giveC s d (ownR rs) = ownR rs := fun s d => by cases rs <;> rfl
    have d3 : ∀ p, Pl.beq p (.t 4) = false → hasPl p (ownR rs) = false := fun p hp => by cases rs with | nil => rfl | cons y rs => simp [ownR, hasPl, hp]
    have d4 : ∀ l bs p q, Pl.beq p (.t 4) = false → St.give ⟨l, bs, ownR rs⟩ p q = ⟨l, bs, ownR rs⟩ := fun l bs p q hp => by simp [St.give, d3 p hp]
    generalize hR : iter (ev C F c) 1 [1, 4, 5] [2, 3, 4] (k + 1) st = R
    rw [iter_eq, hst, hev] at hR
    obtain ⟨c1, t, md, bn, b, kx, ks⟩ := x
    simp only [Tlv.cells] at ra
    simp only [Tlv.width] at hwx
    simp only [Tlv.bytesOk] at hbx
    by_cases hl : ks.length = 1
    case neg =>
      have hl' : ¬ ((ks.length : Int) = 1) := by omega
      simp [loopAt, findLoop, Try.f42, htt, hlin, hcall, e0, e1, e2, ra, cellsL_len, d0, d2, d3, d4] at hR
      by_cases hc1 : c1 = 0
      case neg =>
        simp [htt, hlin, hcall, e0, e1, e2, ra, cellsL_len, d0, d2, d3, d4, hc1] at hR
        subst hR
        exact Or.inr ⟨by simp [okR, readPart, tailRead, noPart, isB, hc1], _, _, _, rfl, by first | exact hb0 | simp [hb0]⟩
      simp only [hc1] at ra
      simp [htt, hlin, hcall, e0, e1, e2, ra, cellsL_len, d0, d2, d3, d4, hc1] at hR
      by_cases ht : t = 17
      case neg =>
        simp [htt, hlin, hcall, e0, e1, e2, ra, cellsL_len, d0, d2, d3, d4, ht] at hR
        subst hR
        exact Or.inr ⟨by simp [okR, readPart, tailRead, noPart, isB, hc1, ht], _, _, _, rfl, by first | exact hb0 | simp [hb0]⟩
      simp only [ht] at ra
      simp [htt, hlin, hcall, e0, e1, e2, ra, cellsL_len, d0, d2, d3, d4, ht] at hR
      cases md
      case false =>
        simp [htt, hlin, hcall, e0, e1, e2, ra, cellsL_len, d0, d2, d3, d4] at hR
        subst hR
        exact Or.inr ⟨by simp [okR, readPart, tailRead, noPart, isB, hc1, ht, true_and], _, _, _, rfl, by first | exact hb0 | simp [hb0]⟩
      simp [htt, hlin, hcall, e0, e1, e2, ra, cellsL_len, d0, d2, d3, d4] at hR
      simp [htt, hlin, hcall, e0, e1, e2, ra, cellsL_len, d0, d2, d3, d4, hl, hl'] at hR
      subst hR
      exact Or.inr ⟨by simp [okR, readPart, tailRead, noPart, isB, hc1, ht, hl, hl'], _, _, _, rfl, by first | exact hb0 | simp [hb0]⟩
    obtain ⟨y1, rfl⟩ := List.length_eq_one_iff.1 hl
    clear hl
    obtain ⟨c2, t2, m2, bn2, b2, kn2, ks2⟩ := y1
    simp only [Tlv.cellsL, Tlv.cells] at ra
    by_cases hl2 : ks2.length = 2
    case neg =>
      have hl2' : ¬ ((ks2.length : Int) = 2) := by omega
      simp [loopAt, findLoop, Try.f42, htt, hlin, hcall, e0, e1, e2, ra, cellsL_len, d0, d2, d3, d4] at hR
      by_cases hc1 : c1 = 0
      case neg =>
        simp [htt, hlin, hcall, e0, e1, e2, ra, cellsL_len, d0, d2, d3, d4, hc1] at hR
        subst hR
        exact Or.inr ⟨by simp [okR, readPart, tailRead, noPart, isB, hc1], _, _, _, rfl, by first | exact hb0 | simp [hb0]⟩
      simp only [hc1] at ra
      simp [htt, hlin, hcall, e0, e1, e2, ra, cellsL_len, d0, d2, d3, d4, hc1] at hR
      by_cases ht : t = 17
      case neg =>
        simp [htt, hlin, hcall, e0, e1, e2, ra, cellsL_len, d0, d2, d3, d4, ht] at hR
        subst hR
        exact Or.inr ⟨by simp [okR, readPart, tailRead, noPart, isB, hc1, ht], _, _, _, rfl, by first | exact hb0 | simp [hb0]⟩
      simp only [ht] at ra
      simp [htt, hlin, hcall, e0, e1, e2, ra, cellsL_len, d0, d2, d3, d4, ht] at hR
      cases md
      case false =>
        simp [htt, hlin, hcall, e0, e1, e2, ra, cellsL_len, d0, d2, d3, d4] at hR
        subst hR
        exact Or.inr ⟨by simp [okR, readPart, tailRead, noPart, isB, hc1, ht, true_and], _, _, _, rfl, by first | exact hb0 | simp [hb0]⟩
      simp [htt, hlin, hcall, e0, e1, e2, ra, cellsL_len, d0, d2, d3, d4] at hR
      by_cases hc2 : c2 = 0
      case neg =>
        simp [htt, hlin, hcall, e0, e1, e2, ra, cellsL_len, d0, d2, d3, d4, hc2] at hR
        subst hR
        exact Or.inr ⟨by simp [okR, readPart, tailRead, noPart, isB, hc1, ht, hc2], _, _, _, rfl, by first | exact hb0 | simp [hb0]⟩
      simp only [hc2] at ra
      simp [htt, hlin, hcall, e0, e1, e2, ra, cellsL_len, d0, d2, d3, d4, hc2] at hR
      by_cases ht2 : t2 = 16
      case neg =>
        simp [htt, hlin, hcall, e0, e1, e2, ra, cellsL_len, d0, d2, d3, d4, ht2] at hR
        subst hR
        exact Or.inr ⟨by simp [okR, readPart, tailRead, noPart, isB, hc1, ht, hc2, ht2], _, _, _, rfl, by first | exact hb0 | simp [hb0]⟩
      simp only [ht2] at ra
      simp [htt, hlin, hcall, e0, e1, e2, ra, cellsL_len, d0, d2, d3, d4, ht2] at hR
      cases m2
      case false =>
        simp [htt, hlin, hcall, e0, e1, e2, ra, cellsL_len, d0, d2, d3, d4] at hR
        subst hR
        exact Or.inr ⟨by simp [okR, readPart, tailRead, noPart, isB, hc1, ht, hc2, ht2, true_and], _, _, _, rfl, by first | exact hb0 | simp [hb0]⟩
      simp [htt, hlin, hcall, e0, e1, e2, ra, cellsL_len, d0, d2, d3, d4] at hR
      simp [htt, hlin, hcall, e0, e1, e2, ra, cellsL_len, d0, d2, d3, d4, hl2, hl2'] at hR
      subst hR
      exact Or.inr ⟨by simp [okR, readPart, tailRead, noPart, isB, hc1, ht, hc2, ht2, hl2, hl2'], _, _, _, rfl, by first | exact hb0 | simp [hb0]⟩
    obtain ⟨y2, y3, rfl⟩ := len_two hl2
    clear hl2
    obtain ⟨co, to, mo, bno, bo, kno, kso⟩ := y2
    obtain ⟨cs, ts, ms, bns, bs, kns, kss⟩ := y3
    simp only [Tlv.widthL, Tlv.width] at hwx
    simp only [Tlv.bytesOkL, Tlv.bytesOk] at hbx
    simp only [Tlv.cellsL, Tlv.cells] at ra
    have k1 := text1 F m bns bs (by omega) (by omega)
    have k2 := fun k => t53 F m k
    by_cases hb3 : bo.length = 3
    case neg =>
      have hb3' : ¬ ((bo.length : Int) = 3) := by omega
      have ht3 : tailRead bo bs = noPart := by
        unfold tailRead
        split
        · simp at hb3
        · rfl
      simp only [noPart] at ht3
      simp [loopAt, findLoop, Try.f42, htt, hlin, hcall, e0, e1, e2, ra, cellsL_len, d0, d2, d3, d4, k1] at hR
      by_cases hc1 : c1 = 0
      case neg =>
        simp [htt, hlin, hcall, e0, e1, e2, ra, cellsL_len, d0, d2, d3, d4, k1, hc1] at hR
        subst hR
        exact Or.inr ⟨by simp [okR, readPart, tailRead, noPart, isB, hc1], _, _, _, rfl, by first | exact hb0 | simp [hb0]⟩
      simp only [hc1] at ra
      simp [htt, hlin, hcall, e0, e1, e2, ra, cellsL_len, d0, d2, d3, d4, k1, hc1] at hR
      by_cases ht : t = 17
      case neg =>
        simp [htt, hlin, hcall, e0, e1, e2, ra, cellsL_len, d0, d2, d3, d4, k1, ht] at hR
        subst hR
        exact Or.inr ⟨by simp [okR, readPart, tailRead, noPart, isB, hc1, ht], _, _, _, rfl, by first | exact hb0 | simp [hb0]⟩
      simp only [ht] at ra
      simp [htt, hlin, hcall, e0, e1, e2, ra, cellsL_len, d0, d2, d3, d4, k1, ht] at hR
      cases md
      case false =>
        simp [htt, hlin, hcall, e0, e1, e2, ra, cellsL_len, d0, d2, d3, d4, k1] at hR
        subst hR
        exact Or.inr ⟨by simp [okR, readPart, tailRead, noPart, isB, hc1, ht, true_and], _, _, _, rfl, by first | exact hb0 | simp [hb0]⟩
      simp [htt, hlin, hcall, e0, e1, e2, ra, cellsL_len, d0, d2, d3, d4, k1] at hR
      by_cases hc2 : c2 = 0
      case neg =>
        simp [htt, hlin, hcall, e0, e1, e2, ra, cellsL_len, d0, d2, d3, d4, k1, hc2] at hR
        subst hR
        exact Or.inr ⟨by simp [okR, readPart, tailRead, noPart, isB, hc1, ht, hc2], _, _, _, rfl, by first | exact hb0 | simp [hb0]⟩
      simp only [hc2] at ra
      simp [htt, hlin, hcall, e0, e1, e2, ra, cellsL_len, d0, d2, d3, d4, k1, hc2] at hR
      by_cases ht2 : t2 = 16
      case neg =>
        simp [htt, hlin, hcall, e0, e1, e2, ra, cellsL_len, d0, d2, d3, d4, k1, ht2] at hR
        subst hR
        exact Or.inr ⟨by simp [okR, readPart, tailRead, noPart, isB, hc1, ht, hc2, ht2], _, _, _, rfl, by first | exact hb0 | simp [hb0]⟩
      simp only [ht2] at ra
      simp [htt, hlin, hcall, e0, e1, e2, ra, cellsL_len, d0, d2, d3, d4, k1, ht2] at hR
      cases m2
      case false =>
        simp [htt, hlin, hcall, e0, e1, e2, ra, cellsL_len, d0, d2, d3, d4, k1] at hR
        subst hR
        exact Or.inr ⟨by simp [okR, readPart, tailRead, noPart, isB, hc1, ht, hc2, ht2, true_and], _, _, _, rfl, by first | exact hb0 | simp [hb0]⟩
      simp [htt, hlin, hcall, e0, e1, e2, ra, cellsL_len, d0, d2, d3, d4, k1] at hR
      by_cases hco : co = 0
      case neg =>
        simp [htt, hlin, hcall, e0, e1, e2, ra, cellsL_len, d0, d2, d3, d4, k1, hco] at hR
        subst hR
        exact Or.inr ⟨by simp [okR, readPart, tailRead, noPart, isB, hc1, ht, hc2, ht2, hco], _, _, _, rfl, by first | exact hb0 | simp [hb0]⟩
      simp only [hco] at ra
      simp [htt, hlin, hcall, e0, e1, e2, ra, cellsL_len, d0, d2, d3, d4, k1, hco] at hR
      by_cases hto : to = 6
      case neg =>
        simp [htt, hlin, hcall, e0, e1, e2, ra, cellsL_len, d0, d2, d3, d4, k1, hto] at hR
        subst hR
        exact Or.inr ⟨by simp [okR, readPart, tailRead, noPart, isB, hc1, ht, hc2, ht2, hco, hto], _, _, _, rfl, by first | exact hb0 | simp [hb0]⟩
      simp only [hto] at ra
      simp [htt, hlin, hcall, e0, e1, e2, ra, cellsL_len, d0, d2, d3, d4, k1, hto] at hR
      cases mo
      case true =>
        simp [htt, hlin, hcall, e0, e1, e2, ra, cellsL_len, d0, d2, d3, d4, k1] at hR
        subst hR
        exact Or.inr ⟨by simp [okR, readPart, tailRead, noPart, isB, hc1, ht, hc2, ht2, hco, hto, true_and], _, _, _, rfl, by first | exact hb0 | simp [hb0]⟩
      simp [htt, hlin, hcall, e0, e1, e2, ra, cellsL_len, d0, d2, d3, d4, k1] at hR
      simp [htt, hlin, hcall, e0, e1, e2, ra, cellsL_len, d0, d2, d3, d4, k1, hb3, hb3'] at hR
      subst hR
      exact Or.inr ⟨by simp [okR, readPart, noPart, isB, hc1, ht, hc2, ht2, hco, hto, ht3], _, _, _, rfl, by first | exact hb0 | simp [hb0]⟩
    obtain ⟨u, v, kk, rfl⟩ := len_three hb3
    clear hb3
    simp [loopAt, findLoop, Try.f42, htt, hlin, hcall, e0, e1, e2, ra, cellsL_len, d0, d2, d3, d4, k1] at hR
    by_cases hc1 : c1 = 0
    case neg =>
      simp [htt, hlin, hcall, e0, e1, e2, ra, cellsL_len, d0, d2, d3, d4, k1, hc1] at hR
      subst hR
      exact Or.inr ⟨by simp [okR, readPart, tailRead, noPart, isB, hc1], _, _, _, rfl, by first | exact hb0 | simp [hb0]⟩
    simp only [hc1] at ra
    simp [htt, hlin, hcall, e0, e1, e2, ra, cellsL_len, d0, d2, d3, d4, k1, hc1] at hR
    by_cases ht : t = 17
    case neg =>
      simp [htt, hlin, hcall, e0, e1, e2, ra, cellsL_len, d0, d2, d3, d4, k1, ht] at hR
      subst hR
      exact Or.inr ⟨by simp [okR, readPart, tailRead, noPart, isB, hc1, ht], _, _, _, rfl, by first | exact hb0 | simp [hb0]⟩
    simp only [ht] at ra
    simp [htt, hlin, hcall, e0, e1, e2, ra, cellsL_len, d0, d2, d3, d4, k1, ht] at hR
    cases md
    case false =>
      simp [htt, hlin, hcall, e0, e1, e2, ra, cellsL_len, d0, d2, d3, d4, k1] at hR
      subst hR
      exact Or.inr ⟨by simp [okR, readPart, tailRead, noPart, isB, hc1, ht, true_and], _, _, _, rfl, by first | exact hb0 | simp [hb0]⟩
    simp [htt, hlin, hcall, e0, e1, e2, ra, cellsL_len, d0, d2, d3, d4, k1] at hR
    by_cases hc2 : c2 = 0
    case neg =>
      simp [htt, hlin, hcall, e0, e1, e2, ra, cellsL_len, d0, d2, d3, d4, k1, hc2] at hR
      subst hR
      exact Or.inr ⟨by simp [okR, readPart, tailRead, noPart, isB, hc1, ht, hc2], _, _, _, rfl, by first | exact hb0 | simp [hb0]⟩
    simp only [hc2] at ra
    simp [htt, hlin, hcall, e0, e1, e2, ra, cellsL_len, d0, d2, d3, d4, k1, hc2] at hR
    by_cases ht2 : t2 = 16
    case neg =>
      simp [htt, hlin, hcall, e0, e1, e2, ra, cellsL_len, d0, d2, d3, d4, k1, ht2] at hR
      subst hR
      exact Or.inr ⟨by simp [okR, readPart, tailRead, noPart, isB, hc1, ht, hc2, ht2], _, _, _, rfl, by first | exact hb0 | simp [hb0]⟩
    simp only [ht2] at ra
    simp [htt, hlin, hcall, e0, e1, e2, ra, cellsL_len, d0, d2, d3, d4, k1, ht2] at hR
    cases m2
    case false =>
      simp [htt, hlin, hcall, e0, e1, e2, ra, cellsL_len, d0, d2, d3, d4, k1] at hR
      subst hR
      exact Or.inr ⟨by simp [okR, readPart, tailRead, noPart, isB, hc1, ht, hc2, ht2, true_and], _, _, _, rfl, by first | exact hb0 | simp [hb0]⟩
    simp [htt, hlin, hcall, e0, e1, e2, ra, cellsL_len, d0, d2, d3, d4, k1] at hR
    by_cases hco : co = 0
    case neg =>
      simp [htt, hlin, hcall, e0, e1, e2, ra, cellsL_len, d0, d2, d3, d4, k1, hco] at hR
      subst hR
      exact Or.inr ⟨by simp [okR, readPart, tailRead, noPart, isB, hc1, ht, hc2, ht2, hco], _, _, _, rfl, by first | exact hb0 | simp [hb0]⟩
    simp only [hco] at ra
    simp [htt, hlin, hcall, e0, e1, e2, ra, cellsL_len, d0, d2, d3, d4, k1, hco] at hR
    by_cases hto : to = 6
    case neg =>
      simp [htt, hlin, hcall, e0, e1, e2, ra, cellsL_len, d0, d2, d3, d4, k1, hto] at hR
      subst hR
      exact Or.inr ⟨by simp [okR, readPart, tailRead, noPart, isB, hc1, ht, hc2, ht2, hco, hto], _, _, _, rfl, by first | exact hb0 | simp [hb0]⟩
    simp only [hto] at ra
    simp [htt, hlin, hcall, e0, e1, e2, ra, cellsL_len, d0, d2, d3, d4, k1, hto] at hR
    cases mo
    case true =>
      simp [htt, hlin, hcall, e0, e1, e2, ra, cellsL_len, d0, d2, d3, d4, k1] at hR
      subst hR
      exact Or.inr ⟨by simp [okR, readPart, tailRead, noPart, isB, hc1, ht, hc2, ht2, hco, hto, true_and], _, _, _, rfl, by first | exact hb0 | simp [hb0]⟩
    simp [htt, hlin, hcall, e0, e1, e2, ra, cellsL_len, d0, d2, d3, d4, k1] at hR
    by_cases hu : u = 85
    case neg =>
      simp [htt, hlin, hcall, e0, e1, e2, ra, cellsL_len, d0, d2, d3, d4, k1, hu] at hR
      subst hR
      exact Or.inr ⟨by simp [okR, readPart, tailRead, noPart, isB, hc1, ht, hc2, ht2, hco, hto, hu], _, _, _, rfl, by first | exact hb0 | simp [hb0]⟩
    simp only [hu] at ra
    simp [htt, hlin, hcall, e0, e1, e2, ra, cellsL_len, d0, d2, d3, d4, k1, hu] at hR
    by_cases hv : v = 4
    case neg =>
      simp [htt, hlin, hcall, e0, e1, e2, ra, cellsL_len, d0, d2, d3, d4, k1, hv] at hR
      subst hR
      exact Or.inr ⟨by simp [okR, readPart, tailRead, noPart, isB, hc1, ht, hc2, ht2, hco, hto, hu, hv], _, _, _, rfl, by first | exact hb0 | simp [hb0]⟩
    simp only [hv] at ra
    simp [htt, hlin, hcall, e0, e1, e2, ra, cellsL_len, d0, d2, d3, d4, k1, hv] at hR
    by_cases hcs : cs = 0
    case neg =>
      simp [htt, hlin, hcall, e0, e1, e2, ra, cellsL_len, d0, d2, d3, d4, k1, hcs] at hR
      subst hR
      exact Or.inr ⟨by simp [okR, readPart, tailRead, noPart, isB, hc1, ht, hc2, ht2, hco, hto, hu, hv, hcs], _, _, _, rfl, by first | exact hb0 | simp [hb0]⟩
    simp only [hcs] at ra
    simp [htt, hlin, hcall, e0, e1, e2, ra, cellsL_len, d0, d2, d3, d4, k1, hcs] at hR
    by_cases hts : ts = 12
    case neg =>
      simp [htt, hlin, hcall, e0, e1, e2, ra, cellsL_len, d0, d2, d3, d4, k1, hts] at hR
      subst hR
      exact Or.inr ⟨by simp [okR, readPart, tailRead, noPart, isB, hc1, ht, hc2, ht2, hco, hto, hu, hv, hcs, hts], _, _, _, rfl, by first | exact hb0 | simp [hb0]⟩
    simp only [hts] at ra
    simp [htt, hlin, hcall, e0, e1, e2, ra, cellsL_len, d0, d2, d3, d4, k1, hts] at hR
    cases ms
    case true =>
      simp [htt, hlin, hcall, e0, e1, e2, ra, cellsL_len, d0, d2, d3, d4, k1] at hR
      subst hR
      exact Or.inr ⟨by simp [okR, readPart, tailRead, noPart, isB, hc1, ht, hc2, ht2, hco, hto, hu, hv, hcs, hts, true_and], _, _, _, rfl, by first | exact hb0 | simp [hb0]⟩
    simp [htt, hlin, hcall, e0, e1, e2, ra, cellsL_len, d0, d2, d3, d4, k1] at hR
    by_cases htb : textBad bs = 0
    case neg =>
      simp [htt, hlin, hcall, e0, e1, e2, ra, cellsL_len, d0, d2, d3, d4, k1, htb] at hR
      subst hR
      exact Or.inr ⟨by simp [okR, readPart, tailRead, noPart, isB, hc1, ht, hc2, ht2, hco, hto, hu, hv, hcs, hts, htb], _, _, _, rfl, by first | exact hb0 | simp [hb0]⟩
    have k2' := k2 kk
    have hkb := hbx.2.1.2.1.1 kk (by simp)
    have w1 : kk ≤ 9223372036854775807 := by omega
    have w2 : -9223372036854775808 ≤ kk := by omega
    simp [htt, hlin, hcall, e0, e1, e2, ra, cellsL_len, d0, d2, d3, d4, k1, htb, k2', w1, w2] at hR
    cases h5 : isKind kk with
    | false =>
      simp [htt, hlin, hcall, e0, e1, e2, ra, cellsL_len, d0, d2, d3, d4, k1, h5] at hR
      subst hR
      exact Or.inr ⟨by simp [okR, readPart, tailRead, noPart, isB, hc1, ht, hc2, ht2, hco, hto, hu, hv, hcs, hts, htb, h5], _, _, _, rfl, by first | exact hb0 | simp [hb0]⟩
    | true =>
      simp [htt, hlin, hcall, e0, e1, e2, ra, cellsL_len, d0, d2, d3, d4, k1, h5] at hR
      have hpr : readPart (.mk c1 t true bn b kx [.mk c2 t2 true bn2 b2 kn2 [.mk co to false bno [u, v, kk] kno kso, .mk cs ts false bns bs kns kss]]) = ((kk, bs), true) := by simp [readPart, tailRead, noPart, isB, hc1, ht, hc2, ht2, hco, hto, hu, hv, hcs, hts, htb, h5]
      simp only [okR, List.all_cons, hpr, Bool.true_and, preR, if_true]
      have ih' := fun st h => ih (rs ++ [(kk, bs)]) (i + 1) k st hd2 (by omega) (by simp; omega) hk' h
      simp only [List.append_assoc, List.cons_append, List.nil_append, okR] at ih'
      cases rs with
      | nil =>
        simp [htt, hlin, hcall, e0, e1, e2, ra, cellsL_len, k1, w1, w2, ownR, rows] at hR
        simp [ownR, rows] at ih' ⊢
        subst hR
        exact ih' _ (by simp)
      | cons y rs =>
        simp at hlen
        have r1 : (rs.length + 1 + 1) * 24 ≤ 140737488355328 := by omega
        have r2 : rs.length + 1 + 1 ≤ 140737488355328 := by omega
        simp [htt, hlin, hcall, e0, e1, e2, ra, cellsL_len, k1, w1, w2, ownR, rows, r1, r2] at hR
        simp [ownR, rows] at ih' ⊢
        subst hR
        exact ih' _ (by simp)

theorem t42 (F n B : Nat) (hB : B ≤ 1000000) (hBF : B < F) (hF : 200 ≤ F) (x : Tlv) (hw : x.width B) (hby : x.bytesOk) :
    callN env F (n+2) 42 [.d (.agg x.cells)] = some ⟨[.d (.sl 2 (ofRes readPart x).2.isEmpty (rows (ofRes readPart x).2)), .d (.int .i64 (ofRes readPart x).1)], []⟩ := by
  obtain ⟨c, t, m, bn, b, kn, ks⟩ := x
  simp only [Tlv.width] at hw
  simp only [Tlv.bytesOk] at hby
  rw [callN_run (fn := Try.f42) rfl rfl rfl (by simp [Try.ntmps42])]
  generalize hC : env.ctx 42 (callN env F (n+1)) (callP env F (n+1)) = C
  have htt : C.tt = env.tt := by rw [← hC]; rfl
  have hlin : C.lin = [4, 152] := by rw [← hC]; rfl
  have hcall : C.call = callN env F (n+1) := by rw [← hC]; rfl
  have hl1 : C.live 5 = [1, 4, 5] := by rw [← hC]; rfl
  have hl2 : C.live 100005 = [2, 3, 4] := by rw [← hC]; rfl
  have r0 : rows [] = [] := rfl
  simp only [Tlv.cells, ofRes]
  by_cases hc : c = 0
  case neg => simp [htt, hlin, hcall, hc, r0]
  by_cases ht : t = 16
  case neg => simp [htt, hlin, hcall, hc, ht, r0]
  cases m
  case false => simp [htt, hlin, hcall, hc, ht, r0]
  subst hc ht
  have hL := fun st h => @loop42 C htt hlin F n B hB hBF hF hcall _ rfl (.int .i64 0) (.int .i64 16) (.bool true) (.nums .u8 bn b) kn ks (by omega) (fun x hx => widthL_mem hw.2.2 hx) (fun x hx => bytesOk_mem hby.2 hx) ks [] 0 F st rfl (by omega) (by simp; omega) (by omega) h
  simp only [ownR, List.isEmpty_nil, List.nil_append] at hL
  rw [r0] at hL
  cases hok : okR readPart ks with
  | true =>
    have hL2 := fun st h => ((hL st h).resolve_right (fun q => by rw [hok] at q; exact absurd q.1 (by simp))).2
    generalize hpre : preR readPart ks = pre at *
    by_cases h8 : 8 < pre.length
    · cases pre with
      | nil => simp at h8
      | cons y pre =>
        simp only [List.length_cons] at h8
        have e8 : (8 : Int) < (pre.length : Int) + 1 := by omega
        have e8' : 8 < pre.length + 1 := h8
        simp [htt, hlin, hcall, ev_loop, hl1, hl2, hL2, cellsL_len, rows_len, e8, e8', r0]
    · cases pre with
      | nil => simp [htt, hlin, hcall, ev_loop, hl1, hl2, hL2, cellsL_len, rows_len, r0]
      | cons y pre =>
        simp only [List.length_cons] at h8
        have e8 : ¬ ((8 : Int) < (pre.length : Int) + 1) := by omega
        have e8' : ¬ (8 < pre.length + 1) := h8
        simp [htt, hlin, hcall, ev_loop, hl1, hl2, hL2, cellsL_len, rows_len, e8, e8', r0]
  | false =>
    obtain ⟨f1, f2, f3, hL3⟩ := skol3 fun st h => ((hL st h).resolve_left (fun q => by rw [hok] at q; exact absurd q.1 (by simp))).2
    have hL2 := fun st h => (hL3 st h).1
    have hL4 := fun st h => (hL3 st h).2
    simp [htt, hlin, hcall, ev_loop, hl1, hl2, hL2, hL4, cellsL_len, rows_len, r0]
end Go.Proofs.Ytmehkdomnhgmeaa
