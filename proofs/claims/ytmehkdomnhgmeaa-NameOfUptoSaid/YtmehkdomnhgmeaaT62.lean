/- The name that the law reads out of an element is the program's: plain law. -/
import Derived.Test.YtmehkdomnhgmeaaT60
import Derived.Test.YtmehkdomnhgmeaaT42
import Derived.Test.YtmehkdomnhgmeaaT12
import Derived.Test.YtmehkdomnhgmeaaT41
namespace Go.Proofs.Ytmehkdomnhgmeaa
open Go Go.VM
set_option linter.unusedSimpArgs false
set_option linter.unusedVariables false

/-- A number of more than one byte is above 127. -/
theorem arcs_long : ∀ (s : List Int) (v : Int) (out o : List Int), 1 ≤ v → (∀ c ∈ s, 0 ≤ c ∧ c < 256) → arcs s v false out = some (o, true) → ∃ e rest, o = out ++ e :: rest ∧ 128 ≤ e
  | [], v, out, o, hv, hs, h => by simp [arcs] at h
  | x :: s, v, out, o, hv, hs, h => by
    have hx := hs x (by simp)
    have hs' : ∀ c ∈ s, 0 ≤ c ∧ c < 256 := fun c hc => hs c (by simp [hc])
    have hm : 1 ≤ min (v * 128 + x % 128) 1099511627776 := by omega
    simp only [arcs] at h
    rw [if_neg (by simp)] at h
    split at h
    · have : ∀ (s : List Int) (v : Int) (b : Bool) (out : List Int) (o : List Int) (b' : Bool), arcs s v b out = some (o, b') → ∃ rest, o = out ++ rest := by
        intro s
        induction s with
        | nil => intro v b out o b' h; simp [arcs] at h; exact ⟨[], by simp [h.1]⟩
        | cons y s ih =>
          intro v b out o b' h
          simp only [arcs] at h
          split at h
          · cases h
          · split at h
            · obtain ⟨r, hr⟩ := ih _ _ _ _ _ h; exact ⟨[min (v * 128 + y % 128) 1099511627776] ++ r, by rw [hr, List.append_assoc]⟩
            · obtain ⟨r, hr⟩ := ih _ _ _ _ _ h; exact ⟨r, hr⟩
      obtain ⟨rest, hr⟩ := this _ _ _ _ _ _ h
      exact ⟨min (v * 128 + x % 128) 1099511627776, rest, by rw [hr]; simp, by omega⟩
    · exact arcs_long s _ out o hm hs' h

/-- Where all numbers are below 128 they are the bytes. -/
theorem arcs_short : ∀ (s : List Int) (out o : List Int), (∀ c ∈ s, 0 ≤ c ∧ c < 256) → arcs s 0 true out = some (o, true) → ∃ t, o = out ++ t ∧ ((∀ e ∈ t, e < 128) → s = t)
  | [], out, o, hs, h => by simp [arcs] at h; exact ⟨[], by simp [h], fun _ => rfl⟩
  | x :: s, out, o, hs, h => by
    have hx := hs x (by simp)
    have hs' : ∀ c ∈ s, 0 ≤ c ∧ c < 256 := fun c hc => hs c (by simp [hc])
    simp only [arcs] at h
    split at h
    · cases h
    · rename_i h128
      simp only [true_and] at h128
      split at h
      · rename_i hlt
        obtain ⟨t, h1, h2⟩ := arcs_short s _ o hs' h
        have e : min ((0 : Int) * 128 + x % 128) 1099511627776 = x := by omega
        rw [e] at h1
        refine ⟨x :: t, by rw [h1]; simp, fun ha => ?_⟩
        rw [← h2 (fun e he => ha e (by simp [he]))]
      · rename_i hlt
        obtain ⟨e, rest, h1, h2⟩ := arcs_long s _ out o (by omega) hs' h
        exact ⟨e :: rest, h1, fun ha => by have := ha e (by simp); omega⟩

theorem kind_cases {k : Int} (h : isKind k = true) : k = 3 ∨ k = 6 ∨ k = 10 ∨ k = 11 := by simpa [isKind] using h

theorem oid_iff {bo : List Int} {k : Int} (hb : ∀ c ∈ bo, 0 ≤ c ∧ c < 256) (hk : isKind k = true) : oidOf bo = .inr [2, 5, 4, k] ↔ bo = [85, 4, k] := by
  have hk' := kind_cases hk
  constructor
  · intro h
    unfold oidOf at h
    split at h
    · rename_i l0 t hr
      split at h
      · cases h
      · split at h
        · cases h
        · simp only [Sum.inr.injEq, List.cons.injEq] at h
          obtain ⟨h1, h2, h3⟩ := h
          obtain ⟨u, hu1, hu2⟩ := arcs_short bo [] _ hb hr
          simp only [List.nil_append] at hu1
          have e0 : l0 = 85 := by omega
          have := hu2 (by
            rw [← hu1, h3, e0]
            intro e he
            simp only [List.mem_cons, List.not_mem_nil, or_false] at he
            omega)
          rw [this, ← hu1, h3, e0]
    · cases h
  · rintro rfl
    rcases hk' with rfl | rfl | rfl | rfl <;> rfl

theorem tail_same (bo bs : List Int) (hb : ∀ c ∈ bo, 0 ≤ c ∧ c < 256) : (tailRes bo bs).2 = (tailRead bo bs).2 ∧ ((tailRead bo bs).2 = true → (tailRes bo bs).1 = (tailRead bo bs).1 ∧ ∃ k, bo = [85, 4, k] ∧ isKind k = true ∧ textBad bs = 0 ∧ (tailRead bo bs).1 = (k, bs)) := by
  by_cases hg : ∃ k, bo = [85, 4, k] ∧ isKind k = true
  · obtain ⟨k, rfl, hk⟩ := hg
    have e1 := (oid_iff hb hk).2 rfl
    have hk' := kind_cases hk
    have e2 : k ≤ 255 := by omega
    unfold tailRes tailRead
    rw [e1]
    by_cases ht : textBad bs = 0 <;> simp [hk, e2, ht, noPart]
  · have h1 : (tailRead bo bs).2 = false := by
      unfold tailRead
      split
      · rename_i u v k
        split
        · rename_i h; exact absurd ⟨k, by rw [h.1, h.2.1], h.2.2.2⟩ hg
        · rfl
      · rfl
    have h2 : (tailRes bo bs).2 = false := by
      unfold tailRes
      split
      · rename_i a b d k ho
        split
        · rename_i h
          obtain ⟨rfl, rfl, rfl, _, hk⟩ := h
          exact absurd ⟨k, (oid_iff hb hk).1 ho, hk⟩ hg
        · rfl
      · rfl
    exact ⟨by rw [h1, h2], fun h => by rw [h1] at h; cases h⟩

/-- A part that is read is one that is told as its element. -/
theorem part_same (x : Tlv) (hb : x.bytesOk) : (partRes x).2 = (readPart x).2 ∧ ((readPart x).2 = true → (partRes x).1 = (readPart x).1 ∧ partOk (readPart x).1 = true ∧ (x.fine = true → (partT (readPart x).1).same x = true)) := by
  obtain ⟨c, t, m, bn, b, kn, ks⟩ := x
  simp only [Tlv.bytesOk] at hb
  simp only [partRes, readPart]
  cases h1 : isB c t m ks.length 17 1 with
  | false => simp [noPart]
  | true =>
    simp only [Bool.true_eq_false, if_false]
    match ks, h1, hb with
    | [], _, _ => simp [noPart]
    | _ :: _ :: _, _, _ => simp [noPart]
    | [.mk c2 t2 m2 bn2 b2 kn2 ks2], h1, hb =>
      simp only [Tlv.bytesOkL, Tlv.bytesOk] at hb
      simp only
      cases h2 : isB c2 t2 m2 ks2.length 16 2 with
      | false => simp [noPart]
      | true =>
        simp only [Bool.true_eq_false, if_false]
        match ks2, h2, hb with
        | [], _, _ => simp [noPart]
        | [_], _, _ => simp [noPart]
        | _ :: _ :: _ :: _, _, _ => simp [noPart]
        | [.mk co to mo bno bo kno kso, .mk cs ts ms bns bs kns kss], h2, hb =>
          simp only [Tlv.bytesOkL, Tlv.bytesOk] at hb
          simp only
          cases h3 : isB co to mo kso.length 6 (-1) with
          | false => simp [noPart]
          | true =>
            cases h4 : isB cs ts ms kss.length 12 (-1) with
            | false => simp [noPart]
            | true =>
              simp only [Bool.true_eq_false, if_false]
              obtain ⟨e1, e2⟩ := tail_same bo bs hb.2.1.2.1.1
              refine ⟨e1, fun h => ?_⟩
              obtain ⟨e3, k, rfl, hk, ht, e4⟩ := e2 h
              refine ⟨e3, by rw [e4]; simp [partOk, hk, ht], fun hf => ?_⟩
              rw [e4]
              simp [isB] at h1 h2 h3 h4
              obtain ⟨rfl, rfl, rfl⟩ := h1
              obtain ⟨rfl, rfl, rfl⟩ := h2
              obtain ⟨rfl, rfl, rfl⟩ := h3
              obtain ⟨rfl, rfl, rfl⟩ := h4
              simp [Tlv.fine, Tlv.fineL] at hf
              simp [partT, nodeT, leafT, Tlv.same, Tlv.sameL, hf]

theorem ok_same : ∀ l : List Tlv, Tlv.bytesOkL l → okR partRes l = okR readPart l ∧ preR partRes l = preR readPart l
  | [], _ => ⟨rfl, rfl⟩
  | x :: l, h => by
    simp only [Tlv.bytesOkL] at h
    obtain ⟨e1, e2⟩ := ok_same l h.2
    obtain ⟨p1, p2⟩ := part_same x h.1
    refine ⟨by simp only [okR, List.all_cons, p1] at e1 ⊢; rw [e1], ?_⟩
    simp only [preR, p1]
    split
    · rename_i hh; rw [(p2 hh).1, e2]
    · rfl

theorem of_same (x : Tlv) (h : x.bytesOk) : ofRes partRes x = ofRes readPart x := by
  obtain ⟨c, t, m, bn, b, kn, ks⟩ := x
  simp only [Tlv.bytesOk] at h
  simp only [ofRes, (ok_same ks h.2).1, (ok_same ks h.2).2]

theorem pre_ok : ∀ l : List Tlv, Tlv.bytesOkL l → okR readPart l = true → (preR readPart l).length = l.length ∧ (preR readPart l).all partOk = true ∧ (Tlv.fineL l = true → Tlv.sameL ((preR readPart l).map partT) l = true)
  | [], _, _ => ⟨rfl, rfl, fun _ => rfl⟩
  | x :: l, hb, h => by
    simp only [Tlv.bytesOkL] at hb
    simp only [okR, List.all_cons, Bool.and_eq_true] at h
    obtain ⟨e1, e2, e3⟩ := pre_ok l hb.2 h.2
    obtain ⟨_, p2, p3⟩ := (part_same x hb.1).2 h.1
    simp only [preR, h.1, if_true, List.length_cons, e1, List.all_cons, p2, e2, Bool.and_self, true_and, List.map_cons, Tlv.sameL, Tlv.fineL, Bool.and_eq_true]
    exact fun hf => ⟨p3 hf.1, e3 hf.2⟩

/-- What was read is told as the element. -/
theorem of_back (x : Tlv) (hb : x.bytesOk) (h : (ofRes readPart x).1 = 0) : may (ofRes readPart x).2 = true ∧ (x.fine = true → (nameT (ofRes readPart x).2).same x = true) := by
  obtain ⟨c, t, m, bn, b, kn, ks⟩ := x
  simp only [Tlv.bytesOk] at hb
  simp only [ofRes] at h ⊢
  split at h
  · cases h
  · rename_i h1
    rw [if_neg h1]
    split at h
    · cases h
    · rename_i h2
      rw [if_neg h2]
      split at h
      · cases h
      · rename_i h3
        rw [if_neg h3]
        simp only [Decidable.not_not] at h1
        obtain ⟨rfl, rfl, rfl⟩ := h1
        obtain ⟨e1, e2, e3⟩ := pre_ok ks hb.2 (by simpa using h2)
        refine ⟨by simp [may, e2]; omega, fun hf => ?_⟩
        simp only [Tlv.fine, Bool.and_eq_true, decide_eq_true_eq] at hf
        simp only [nameT, nodeT, Tlv.same, Bool.and_eq_true, decide_eq_true_eq, List.length_map, e1, true_and]
        exact ⟨⟨(hf.1.2.2.2.2.1 trivial).symm, trivial⟩, e3 hf.2⟩
theorem ofRes_cases (x : Tlv) : (ofRes readPart x).1 = 0 ∨ ((ofRes readPart x).1 = 7 ∧ (ofRes readPart x).2 = []) ∨ ((ofRes readPart x).1 = 2 ∧ (ofRes readPart x).2 = []) := by
  obtain ⟨c, t, m, bn, b, kn, ks⟩ := x
  simp only [ofRes]
  split
  · exact .inr (.inl ⟨rfl, rfl⟩)
  · split
    · exact .inr (.inl ⟨rfl, rfl⟩)
    · split
      · exact .inr (.inr ⟨rfl, rfl⟩)
      · exact .inl rfl
mutual
theorem weight_width {W : Nat} : ∀ x : Tlv, x.weight ≤ W → x.width W
  | .mk _ _ _ _ b _ ks, h => by
    simp only [Tlv.weight] at h
    have := weightL_len ks
    exact ⟨by omega, by omega, weightL_width ks (by omega)⟩
theorem weightL_width {W : Nat} : ∀ l : List Tlv, Tlv.weightL l ≤ W → Tlv.widthL W l
  | [], _ => trivial
  | x :: l, h => by
    simp only [Tlv.weightL] at h
    exact ⟨weight_width x (by omega), weightL_width l (by omega)⟩
theorem weightL_len : ∀ l : List Tlv, l.length ≤ Tlv.weightL l
  | [] => by simp [Tlv.weightL]
  | .mk _ _ _ _ b _ ks :: l => by
    have := weightL_len l
    simp only [Tlv.weightL, Tlv.weight, List.length_cons]; omega
end
end Go.Proofs.Ytmehkdomnhgmeaa
