/- What bytes are read as: no program in sight. -/
import Derived.Test.YtjmcgdhekjkjfaaDoorSC
import Derived.Test.YtjmcgdhekjkjfaaDoorSB
namespace Go.Proofs.YtjmcgdhekjkjfaaDoor
open Go Go.VM
set_option linter.unusedSimpArgs false
set_option linter.unusedVariables false
inductive Res (α : Type) where
  | ok (x : α)
  | bad (c : Int) (p : Int)
def byteAt (b : List Int) (i : Nat) : Int := (b[i]?).getD 0
def beN (b : List Int) (i : Nat) : Nat → Int
  | 0 => 0
  | q + 1 => 256 * beN b i q + byteAt b (i + q)
def lenB (b : List Int) (i stop : Nat) : Res (Nat × Nat) :=
  if stop ≤ i then .bad 6 i
  else if byteAt b i < 128 then .ok ((byteAt b i).toNat, i + 1)
  else if byteAt b i = 128 ∨ 131 < byteAt b i then .bad 7 i
  else if stop < i + 1 + (byteAt b i - 128).toNat then .bad 6 i
  else if byteAt b (i + 1) = 0 ∨ beN b (i + 1) (byteAt b i - 128).toNat < 128 then .bad 7 i
  else .ok ((beN b (i + 1) (byteAt b i - 128).toNat).toNat, i + 1 + (byteAt b i - 128).toNat)
def spanB (b : List Int) (i stop : Nat) : Res (Nat × Nat) :=
  match lenB b i stop with
  | .bad c p => .bad c p
  | .ok (v, f) => if stop < f + v then .bad 6 i else .ok (f, f + v)
def kidsB (g : Nat → Nat → Res (Tlv × Nat)) : Nat → Nat → Nat → Res (List Tlv)
  | 0, _, _ => .ok []
  | k + 1, fr, to => if fr < to then
      (match g fr to with
      | .bad c p => .bad c p
      | .ok (x, nx) => match kidsB g k nx to with
        | .bad c p => .bad c p
        | .ok l => .ok (x :: l)) else .ok []
def elemB (b : List Int) : Nat → Nat → Nat → Res (Tlv × Nat)
  | 0, i, _ => .bad 9 i
  | d + 1, i, stop =>
    if stop ≤ i then .bad 6 i
    else if byteAt b i % 32 = 31 then .bad 7 i
    else match spanB b (i + 1) stop with
      | .bad c p => .bad c p
      | .ok (fr, to) => if byteAt b i / 32 % 2 = 1 then
          (match kidsB (elemB b d) (to - fr) fr to with
          | .bad c p => .bad c p
          | .ok l => .ok (.mk (byteAt b i / 64) (byteAt b i % 32) true true [] l.isEmpty l, to))
        else .ok (.mk (byteAt b i / 64) (byteAt b i % 32) false false ((b.drop fr).take (to - fr)) true [], to)
def parseB (b : List Int) : Res Tlv :=
  if 1048576 < b.length then .bad 2 (-1)
  else match elemB b 16 0 b.length with
    | .bad c p => .bad c p
    | .ok (x, e) => if e < b.length then .bad 8 e else .ok x
theorem byteAt_drop {b : List Int} {i : Nat} (h : i < b.length) : b.drop i = byteAt b i :: b.drop (i + 1) := by
  rw [List.drop_eq_getElem_cons h]
  simp [byteAt, h]
theorem byteAt_ok {b : List Int} (hb : ∀ c ∈ b, 0 ≤ c ∧ c < 256) (i : Nat) : 0 ≤ byteAt b i ∧ byteAt b i < 256 := by
  unfold byteAt
  cases h : b[i]? with
  | none => simp
  | some x => simpa using hb x (List.mem_of_getElem? h)
theorem beN_ok {b : List Int} (hb : ∀ c ∈ b, 0 ≤ c ∧ c < 256) (i : Nat) : ∀ q, 0 ≤ beN b i q ∧ beN b i q < 256 ^ q
  | 0 => by simp [beN]
  | q + 1 => by
    have h1 := beN_ok hb i q
    have h2 := byteAt_ok hb (i + q)
    simp only [beN, Int.pow_succ]
    omega
theorem lenB_ok {b : List Int} (hb : ∀ c ∈ b, 0 ≤ c ∧ c < 256) {i stop v f : Nat} (hs : stop ≤ b.length) (h : lenB b i stop = .ok (v, f)) :
    b.drop i = sizeB v ++ b.drop f ∧ f ≤ stop ∧ f = i + (sizeB v).length ∧ v < 16777216 := by
  unfold lenB at h
  have g0 := byteAt_ok hb i
  have g1 := byteAt_ok hb (i + 1)
  have g2 := byteAt_ok hb (i + 2)
  have g3 := byteAt_ok hb (i + 3)
  split at h
  · cases h
  rename_i h1
  split at h
  · rename_i h2
    injection h with h; injection h with hv hf
    subst hf
    have e : sizeB v = [byteAt b i] := by unfold sizeB; rw [if_pos (by omega)]; congr 1; omega
    rw [e]
    exact ⟨byteAt_drop (by omega), by omega, rfl, by omega⟩
  rename_i h2
  split at h
  · cases h
  rename_i h3
  split at h
  · cases h
  rename_i h4
  split at h
  · cases h
  rename_i h5
  injection h with h; injection h with hv hf
  have d0 := byteAt_drop (b := b) (i := i) (by omega)
  have hq : byteAt b i = 129 ∨ byteAt b i = 130 ∨ byteAt b i = 131 := by omega
  rcases hq with hq | hq | hq
  · rw [hq] at hv hf h4 h5
    simp [beN, Nat.add_assoc] at hv hf h4 h5
    have d1 := byteAt_drop (b := b) (i := i + 1) (by omega)
    have e : sizeB v = [byteAt b i, byteAt b (i + 1)] := by
      unfold sizeB; rw [if_neg (by omega), if_pos (by omega), hq]; congr 2; omega
    rw [e, d0, d1]
    subst hf
    exact ⟨rfl, by omega, rfl, by omega⟩
  · rw [hq] at hv hf h4 h5
    simp [beN, Nat.add_assoc] at hv hf h4 h5
    have d1 := byteAt_drop (b := b) (i := i + 1) (by omega)
    have d2 := byteAt_drop (b := b) (i := i + 2) (by omega)
    have e : sizeB v = [byteAt b i, byteAt b (i + 1), byteAt b (i + 2)] := by
      unfold sizeB; rw [if_neg (by omega), if_neg (by omega), if_pos (by omega), hq]
      have e1 : (v : Int) / 256 = byteAt b (i + 1) := by omega
      have e2 : (v : Int) % 256 = byteAt b (i + 2) := by omega
      rw [e1, e2]
    rw [e, d0, d1, d2]
    subst hf
    exact ⟨rfl, by omega, rfl, by omega⟩
  · rw [hq] at hv hf h4 h5
    simp [beN, Nat.add_assoc] at hv hf h4 h5
    have d1 := byteAt_drop (b := b) (i := i + 1) (by omega)
    have d2 := byteAt_drop (b := b) (i := i + 2) (by omega)
    have d3 := byteAt_drop (b := b) (i := i + 3) (by omega)
    have e : sizeB v = [byteAt b i, byteAt b (i + 1), byteAt b (i + 2), byteAt b (i + 3)] := by
      unfold sizeB; rw [if_neg (by omega), if_neg (by omega), if_neg (by omega), hq]
      have e1 : (v : Int) / 65536 = byteAt b (i + 1) := by omega
      have e2 : (v : Int) / 256 % 256 = byteAt b (i + 2) := by omega
      have e3 : (v : Int) % 256 = byteAt b (i + 3) := by omega
      rw [e1, e2, e3]
    rw [e, d0, d1, d2, d3]
    subst hf
    exact ⟨rfl, by omega, rfl, by omega⟩
theorem spanB_ok {b : List Int} (hb : ∀ c ∈ b, 0 ≤ c ∧ c < 256) {i stop fr to : Nat} (hs : stop ≤ b.length) (h : spanB b i stop = .ok (fr, to)) :
    b.drop i = sizeB (to - fr) ++ b.drop fr ∧ i < fr ∧ fr ≤ to ∧ to ≤ stop ∧ fr = i + (sizeB (to - fr)).length := by
  unfold spanB at h
  split at h
  · cases h
  · rename_i v f hl
    have hl := lenB_ok hb hs hl
    split at h
    · cases h
    · injection h with h; injection h with h1 h2
      subst h1; subst h2
      have e : f + v - f = v := by omega
      rw [e]
      refine ⟨hl.1, ?_, by omega, by omega, hl.2.2.1⟩
      have : 0 < (sizeB v).length := by unfold sizeB; repeat' split
                                        all_goals simp
      omega
structure Read (b : List Int) (d i stop : Nat) (x : Tlv) (nx : Nat) : Prop where
  lo : i + 2 ≤ nx
  hi : nx ≤ stop
  enc : b.drop i = x.enc ++ b.drop nx
  fine : x.fine = true
  depth : x.depth ≤ d
  bytes : x.bytesOk
  weight : x.weight ≤ nx - i
theorem kidsB_ok {b : List Int} {d : Nat} {g : Nat → Nat → Res (Tlv × Nat)} {to : Nat} (hg : ∀ i x nx, g i to = .ok (x, nx) → Read b d i to x nx) :
    ∀ (k fr : Nat) (l : List Tlv), kidsB g k fr to = .ok l → to - fr ≤ k → fr ≤ to →
      b.drop fr = Tlv.encL l ++ b.drop to ∧ Tlv.fineL l = true ∧ Tlv.depthL l ≤ d ∧ Tlv.bytesOkL l ∧ Tlv.weightL l ≤ to - fr
  | 0, fr, l, h, hk, hf => by
    simp only [kidsB] at h
    injection h with h; subst h
    have : fr = to := by omega
    subst this
    simp [Tlv.encL, Tlv.fineL, Tlv.depthL, Tlv.bytesOkL, Tlv.weightL]
  | k + 1, fr, l, h, hk, hf => by
    simp only [kidsB] at h
    split at h
    · split at h
      · cases h
      · rename_i x nx hx
        have hr := hg _ _ _ hx
        split at h
        · cases h
        · rename_i l' hl'
          injection h with h; subst h
          have := hr.lo
          have ih := kidsB_ok hg k nx l' hl' (by omega) hr.hi
          refine ⟨?_, ?_, ?_, ?_, ?_⟩
          · rw [hr.enc, ih.1]; simp [Tlv.encL]
          · simp [Tlv.fineL, hr.fine, ih.2.1]
          · simp only [Tlv.depthL]; have := hr.depth; have := ih.2.2.1; omega
          · exact ⟨hr.bytes, ih.2.2.2.1⟩
          · simp only [Tlv.weightL]; have := hr.weight; have := hr.hi; have := ih.2.2.2.2; omega
    · injection h with h; subst h
      have : fr = to := by omega
      subst this
      simp [Tlv.encL, Tlv.fineL, Tlv.depthL, Tlv.bytesOkL, Tlv.weightL]
theorem first_of (f : Int) (h0 : 0 ≤ f) (h1 : f < 256) : 64 * (f / 64) + f % 32 + (if f / 32 % 2 = 1 then 32 else 0) = f := by
  split <;> omega
theorem elemB_ok {b : List Int} (hb : ∀ c ∈ b, 0 ≤ c ∧ c < 256) : ∀ (d i stop : Nat) (x : Tlv) (nx : Nat), stop ≤ b.length → elemB b d i stop = .ok (x, nx) → Read b d i stop x nx
  | 0, i, stop, x, nx, hs, h => by cases h
  | d + 1, i, stop, x, nx, hs, h => by
    simp only [elemB] at h
    have g0 := byteAt_ok hb i
    have hfi := first_of (byteAt b i) g0.1 g0.2
    split at h
    · cases h
    split at h
    · cases h
    split at h
    · cases h
    rename_i fr to hsp
    have hp := spanB_ok hb hs hsp
    have d0 := byteAt_drop (b := b) (i := i) (by omega)
    have hsz : 0 < (sizeB (to - fr)).length := by omega
    split at h
    · rename_i hm
      split at h
      · cases h
      · rename_i l hl
        injection h with h; injection h with hx hn
        subst hx; subst hn
        have ih := kidsB_ok (fun i x nx h => elemB_ok hb d i to x nx (by omega) h) _ _ _ hl (by omega) (by omega)
        have hlen : (Tlv.encL l).length = to - fr := by
          have := congrArg List.length ih.1
          simp only [List.length_append, List.length_drop] at this
          omega
        refine ⟨by omega, by omega, ?_, ?_, ?_, ?_, ?_⟩
        · simp only [Tlv.enc, List.nil_append, headB, hlen]
          rw [if_pos hm] at hfi
          simp only [if_true, List.cons_append, List.append_assoc, hfi]
          rw [d0, hp.1, ih.1]
        · simp only [Tlv.fine, ih.2.1, Bool.and_true, decide_eq_true_eq]
          exact ⟨by omega, by omega, by omega, by omega, by simp, by simp⟩
        · simp only [Tlv.depth]; omega
        · exact ⟨by simp, ih.2.2.2.1⟩
        · simp only [Tlv.weight, List.length_nil]; omega
    · rename_i hm
      injection h with h; injection h with hx hn
      subst hx; subst hn
      have hlen : ((b.drop fr).take (to - fr)).length = to - fr := by simp; omega
      refine ⟨by omega, by omega, ?_, ?_, ?_, ?_, ?_⟩
      · simp only [Tlv.enc, Tlv.encL, List.append_nil, headB, hlen]
        rw [if_neg hm] at hfi
        simp only [Bool.false_eq_true, if_false, List.cons_append, List.append_assoc, hfi]
        rw [d0, hp.1]
        congr 2
        have := List.take_append_drop (to - fr) (b.drop fr)
        rw [List.drop_drop, show fr + (to - fr) = to by omega] at this
        exact this.symm
      · simp only [Tlv.fine, Tlv.fineL, Bool.and_true, decide_eq_true_eq]
        exact ⟨by omega, by omega, by omega, by omega, by simp, by simp⟩
      · simp only [Tlv.depth, Tlv.depthL]; omega
      · exact ⟨fun c hc => hb c (List.mem_of_mem_drop (List.mem_of_mem_take hc)), trivial⟩
      · simp only [Tlv.weight, Tlv.weightL, hlen]; omega
theorem parseB_ok {b : List Int} (hb : ∀ c ∈ b, 0 ≤ c ∧ c < 256) {x : Tlv} (h : parseB b = .ok x) :
    b.length ≤ 1048576 ∧ x.enc = b ∧ x.fine = true ∧ x.depth ≤ 16 ∧ x.bytesOk ∧ x.weight ≤ b.length := by
  unfold parseB at h
  split at h
  · cases h
  split at h
  · cases h
  rename_i y e he
  have hr := elemB_ok hb _ _ _ _ _ (Nat.le_refl _) he
  split at h
  · cases h
  · injection h with h; subst h
    have hh := hr.hi
    have e1 : e = b.length := by omega
    subst e1
    have := hr.enc
    simp at this
    exact ⟨by omega, this.symm, hr.fine, hr.depth, hr.bytes, hr.weight⟩
end Go.Proofs.YtjmcgdhekjkjfaaDoor
namespace Go.Proofs.YtjmcgdhekjkjfaaDoor
open Go Go.VM
set_option linter.unusedSimpArgs false
set_option linter.unusedVariables false
mutual
def Tlv.norm : Tlv → Tlv
  | .mk c t m _ b _ ks => .mk c t m m b ks.isEmpty (Tlv.normL ks)
def Tlv.normL : List Tlv → List Tlv
  | [] => []
  | x :: l => x.norm :: Tlv.normL l
end
theorem byteAt_of_drop {b l : List Int} {i : Nat} (h : b.drop i = l) (j : Nat) : byteAt b (i + j) = (l[j]?).getD 0 := by
  subst h
  simp [byteAt, List.getElem?_drop]
theorem drop_of_drop {b l r : List Int} {i : Nat} (h : b.drop i = l ++ r) : b.drop (i + l.length) = r := by
  rw [← List.drop_drop, h]; simp
theorem lenB_enc {b r : List Int} {i stop v : Nat} (hv : v < 16777216) (h : b.drop i = sizeB v ++ r) (hs : i + (sizeB v).length ≤ stop) :
    lenB b i stop = .ok (v, i + (sizeB v).length) := by
  have h0 := byteAt_of_drop h 0
  have h1 := byteAt_of_drop h 1
  have h2 := byteAt_of_drop h 2
  have h3 := byteAt_of_drop h 3
  unfold sizeB at h0 h1 h2 h3 hs ⊢
  unfold lenB
  split at hs
  · rename_i c1
    simp only [if_pos c1, List.length_cons, List.length_nil] at h0 hs ⊢
    simp at h0
    rw [if_neg (by omega), if_pos (by omega), h0]
    simp
  · rename_i c1
    rw [if_neg c1] at h0 h1 h2 h3
    split at hs
    · rename_i c2
      rw [if_pos c2] at h0 h1 h2 h3
      simp only [if_neg c1, if_pos c2, List.length_cons, List.length_nil] at hs ⊢
      simp at h0 h1
      rw [if_neg (by omega), if_neg (by omega), if_neg (by omega), h0]
      simp [beN, h1]
      rw [if_neg (by omega), if_neg (by omega)]
    · rename_i c2
      rw [if_neg c2] at h0 h1 h2 h3
      split at hs
      · rename_i c3
        rw [if_pos c3] at h0 h1 h2 h3
        simp only [if_neg c1, if_neg c2, if_pos c3, List.length_cons, List.length_nil] at hs ⊢
        simp at h0 h1 h2
        rw [if_neg (by omega), if_neg (by omega), if_neg (by omega), h0]
        simp only [show ((130 : Int) - 128).toNat = 2 from rfl, beN, Nat.add_zero]
        rw [if_neg (by omega), show i + 1 + 1 = i + 2 by omega, h1, h2, if_neg (by omega)]
        congr 2
        omega
      · rename_i c3
        rw [if_neg c3] at h0 h1 h2 h3
        simp only [if_neg c1, if_neg c2, if_neg c3, List.length_cons, List.length_nil] at hs ⊢
        simp at h0 h1 h2 h3
        rw [if_neg (by omega), if_neg (by omega), if_neg (by omega), h0]
        simp only [show ((131 : Int) - 128).toNat = 3 from rfl, beN, Nat.add_zero]
        rw [if_neg (by omega), show i + 1 + 1 = i + 2 by omega, show i + 1 + 2 = i + 3 by omega, h1, h2, h3, if_neg (by omega)]
        congr 2
        omega
theorem spanB_enc {b r : List Int} {i stop v : Nat} (hv : v < 16777216) (h : b.drop i = sizeB v ++ r) (hs : i + (sizeB v).length + v ≤ stop) :
    spanB b i stop = .ok (i + (sizeB v).length, i + (sizeB v).length + v) := by
  unfold spanB
  rw [lenB_enc hv h (by omega)]
  simp only
  rw [if_neg (by omega)]
theorem kidsB_enc {b : List Int} {g : Nat → Nat → Res (Tlv × Nat)} {to : Nat} :
    ∀ (ks : List Tlv) (k fr : Nat) (r : List Int), (∀ x ∈ ks, ∀ i r, b.drop i = x.enc ++ r → i + x.enc.length ≤ to → g i to = .ok (x.norm, i + x.enc.length)) → (∀ x ∈ ks, 0 < x.enc.length) →
      b.drop fr = Tlv.encL ks ++ r → fr + (Tlv.encL ks).length = to → to - fr ≤ k → kidsB g k fr to = .ok (Tlv.normL ks)
  | [], k, fr, r, hg, hp, h, ht, hk => by
    simp [Tlv.encL] at ht
    subst ht
    cases k <;> simp [kidsB, Tlv.normL]
  | x :: ks, k, fr, r, hg, hp, h, ht, hk => by
    simp only [Tlv.encL, List.append_assoc, List.length_append] at h ht
    have hx := hp x (by simp)
    obtain ⟨k, rfl⟩ : ∃ j, k = j + 1 := ⟨k - 1, by omega⟩
    simp only [kidsB]
    rw [if_pos (by omega), hg x (by simp) fr _ h (by omega)]
    simp only
    have hk2 := kidsB_enc (g := g) (to := to) ks k (fr + x.enc.length) r (fun y hy => hg y (by simp [hy])) (fun y hy => hp y (by simp [hy])) (drop_of_drop h) (by omega) (by omega)
    rw [hk2]
    rfl
theorem enc_two (x : Tlv) : 2 ≤ x.enc.length := by
  obtain ⟨c, t, m, bn, b, kn, ks⟩ := x
  have : 0 < (sizeB (b ++ Tlv.encL ks).length).length := by
    unfold sizeB; repeat' split
    all_goals simp
  simp only [Tlv.enc, headB, List.length_append, List.length_cons] at this ⊢
  omega
theorem encL_mem {x : Tlv} : ∀ {l : List Tlv}, x ∈ l → x.enc.length ≤ (Tlv.encL l).length
  | y :: l, hx => by
    simp only [Tlv.encL, List.length_append]
    rcases List.mem_cons.1 hx with rfl | hx
    · omega
    · have := encL_mem hx; omega
theorem elemB_enc {b : List Int} : ∀ (d i stop : Nat) (x : Tlv) (r : List Int), x.fine = true → x.depth ≤ d → x.enc.length < 16777216 →
    b.drop i = x.enc ++ r → i + x.enc.length ≤ stop → elemB b d i stop = .ok (x.norm, i + x.enc.length)
  | 0, i, stop, x, r, hf, hd, hn, h, hs => by cases x; simp [Tlv.depth] at hd
  | d + 1, i, stop, x, r, hf, hd, hn, h, hs => by
    obtain ⟨c, t, m, bn, bd, kn, ks⟩ := x
    simp only [Tlv.fine, Bool.and_eq_true, decide_eq_true_eq] at hf
    obtain ⟨⟨c0, c3, t0, t30, hmb, hmk⟩, hfl⟩ := hf
    simp only [Tlv.depth] at hd
    have h2 := enc_two (.mk c t m bn bd kn ks)
    have hb0 := byteAt_of_drop h 0
    simp only [Tlv.enc, headB, List.cons_append, List.append_assoc, List.length_append, List.length_cons] at h hn hs h2 hb0 ⊢
    simp at hb0
    have hd1 : b.drop (i + 1) = sizeB (bd.length + (Tlv.encL ks).length) ++ (bd ++ (Tlv.encL ks ++ r)) := by
      rw [← List.drop_drop, h]; rfl
    have hsp := spanB_enc (b := b) (i := i + 1) (stop := stop) (v := bd.length + (Tlv.encL ks).length) (by omega) hd1 (by omega)
    have hd2 := drop_of_drop hd1
    unfold elemB
    rw [if_neg (by omega)]
    have f32 : byteAt b i % 32 = t := by rw [hb0]; cases m <;> simp <;> omega
    have f64 : byteAt b i / 64 = c := by rw [hb0]; cases m <;> simp <;> omega
    rw [if_neg (by omega), hsp]
    simp only [f32, f64]
    generalize hfr : i + 1 + (sizeB (bd.length + (Tlv.encL ks).length)).length = fr at *
    cases m with
    | true =>
      have : bd = [] := hmb rfl
      subst this
      simp only [List.length_nil, List.nil_append, Nat.zero_add] at *
      rw [if_pos (by rw [hb0]; simp; omega)]
      rw [kidsB_enc ks _ _ r (fun x hx i r h hs => elemB_enc d i _ x r (fineL_mem hfl hx) (by have := depthL_mem hx; omega) (by have := encL_mem hx; omega) h hs)
        (fun x hx => by have := enc_two x; omega) hd2 rfl (by omega)]
      simp only [Tlv.norm]
      have e1 : (Tlv.normL ks).isEmpty = ks.isEmpty := by cases ks <;> rfl
      rw [e1]
      congr 2
      omega
    | false =>
      have : ks = [] := hmk rfl
      subst this
      simp only [Tlv.encL, List.length_nil, List.nil_append, Nat.add_zero] at *
      rw [if_neg (by rw [hb0]; simp; omega), hd2]
      simp only [Tlv.norm, Tlv.normL, List.isEmpty_nil]
      rw [show fr + bd.length - fr = bd.length by omega, List.take_left]
      congr 2
      omega
theorem parseB_enc {x : Tlv} (hf : x.fine = true) (hd : x.depth ≤ 16) (hl : x.enc.length ≤ 1048576) : parseB x.enc = .ok x.norm := by
  unfold parseB
  rw [if_neg (by omega), elemB_enc 16 0 x.enc.length x [] hf hd (by omega) (by simp) (by omega)]
  simp
mutual
theorem same_norm : ∀ x : Tlv, x.norm.same x = true
  | .mk c t m bn b kn ks => by
    simp only [Tlv.norm, Tlv.same, Bool.and_eq_true, decide_eq_true_eq]
    exact ⟨by simp [normL_len ks], same_normL ks⟩
theorem same_normL : ∀ l : List Tlv, Tlv.sameL (Tlv.normL l) l = true
  | [] => rfl
  | x :: l => by simp only [Tlv.normL, Tlv.sameL, same_norm x, same_normL l, Bool.and_true]
theorem normL_len : ∀ l : List Tlv, (Tlv.normL l).length = l.length
  | [] => rfl
  | x :: l => by simp only [Tlv.normL, List.length_cons, normL_len l]
end
end Go.Proofs.YtjmcgdhekjkjfaaDoor
set_option linter.unusedSimpArgs false
set_option linter.unusedVariables false
namespace Go.Proofs.YtjmcgdhekjkjfaaDoor
open Go Go.VM
variable {G : GE}
set_option maxRecDepth 100000
set_option maxHeartbeats 4000000
def firstIx (p : Tlv → Bool) : Nat → List Tlv → Int
  | _, [] => -1
  | i, x :: l => if p x = true then i else firstIx p (i + 1) l
theorem firstIx_any (p : Tlv → Bool) : ∀ (i : Nat) (l : List Tlv), decide (0 ≤ firstIx p i l) = l.any p
  | i, [] => by simp [firstIx]
  | i, x :: l => by
    simp only [firstIx, List.any_cons]
    by_cases h : p x = true
    · simp [h]
    · simp [h, firstIx_any p (i + 1) l]
theorem loop_ix {C : Ctx} {F m g : Nat} (htt : C.tt = (envG G).tt) (hlin : C.lin = []) (hreg : C.reg = reg146) (hcall : C.call = callN (envG G) F m) {c : Code}
    (hc : loopAt 2 Tryd.f146 = some c) (nl : Bool) (a : List Tlv) (ha : a.length ≤ 140737488355328) (p : Tlv → Bool)
    (hg : ∀ x ∈ a, callN (envG G) F m g [.d (.agg x.cells)] = some ⟨[.d (.bool (p x))], []⟩) :
    ∀ (us : List Tlv) (i k : Nat) (st : St), a.drop i = us → i ≤ a.length → us.length < k →
      st.trim 0 [0, 1, 7, 8] = ⟨[(0, .d (.sl 5 nl (Tlv.cellsL a))), (1, .fn g []), (7, .d (.int .i64 a.length)), (8, .d (.int .i64 i))], [], []⟩ →
      iter (ev C F c) 0 [0, 1, 7, 8] [4] k st = if 0 ≤ firstIx p i us then some (.ret, ⟨[(4, .d (.int .i64 (firstIx p i us)))], [], []⟩) else some (.exit 0, ⟨[], [], []⟩) := by
  have hev : ∀ st, ev C F c st = ev C F ((loopAt 2 Tryd.f146).getD .skip) st := fun st => by rw [hc]; rfl
  intro us
  induction us with
  | nil =>
    intro i k st hd hi hk hst
    obtain ⟨k, rfl⟩ : ∃ j, k = j + 1 := ⟨k - 1, by simp at hk; omega⟩
    have h0 := drop_nil hd
    have e0 : ¬ ((i : Int) < (a.length : Int)) := by omega
    rw [iter_eq, hst, hev]
    simp [loopAt, findLoop, Tryd.f146, htt, hlin, hreg, reg146, e0, firstIx]
  | cons x us ih =>
    intro i k st hd hi hk hst
    obtain ⟨k, rfl⟩ : ∃ j, k = j + 1 := ⟨k - 1, by simp at hk; omega⟩
    simp at hk
    obtain ⟨hd2, hlt⟩ := drop_succ hd
    have ra := cellsL_at hd
    have hx := hg x (List.mem_of_getElem? (at_of_drop hd))
    have l5 := cells_five x
    have e0 : (i : Int) < (a.length : Int) := by omega
    have e1 : (i : Int) + 1 ≤ 9223372036854775807 := by omega
    have e3 : (0 : Int) ≤ (i : Int) := by omega
    have e2 : (-9223372036854775808 : Int) ≤ (i : Int) + 1 := by omega
    have ih' := fun st h => ih (i + 1) k st hd2 (by omega) hk h
    rw [iter_eq, hst, hev]
    obtain ⟨c1, t, md, bn, b, kx, ks⟩ := x
    simp only [Tlv.cells] at ra hx
    cases hp : p (.mk c1 t md bn b kx ks) with
    | true =>
      rw [hp] at hx
      simp [loopAt, findLoop, Tryd.f146, htt, hlin, hreg, reg146, hcall, e0, e1, e2, e3, ra, hx, firstIx, hp]
    | false =>
      rw [hp] at hx
      simp [loopAt, findLoop, Tryd.f146, htt, hlin, hreg, reg146, hcall, e0, e1, e2, e3, ra, hx, firstIx, hp]
      exact ih' _ (by simp)
theorem t_ix (F m g : Nat) (nl : Bool) (a : List Tlv) (ha : a.length ≤ 140737488355328) (hF : a.length < F) (p : Tlv → Bool)
    (hg : ∀ x ∈ a, callN (envG G) F m g [.d (.agg x.cells)] = some ⟨[.d (.bool (p x))], []⟩) :
    callN (envG G) F (m+1) 146 [.d (.sl 5 nl (Tlv.cellsL a)), .fn g []] = some ⟨[.d (.int .i64 (firstIx p 0 a))], []⟩ := by
  rw [callN_run (fn := Tryd.f146) rfl rfl rfl (by simp [Tryd.ntmps146])]
  generalize hC : (envG G).ctx 146 (callN (envG G) F m) (callP (envG G) F m) = C
  have htt : C.tt = (envG G).tt := by rw [← hC]; rfl
  have hlin : C.lin = [] := by rw [← hC]; rfl
  have hreg : C.reg = reg146 := by rw [← hC]; rfl
  have hcall : C.call = callN (envG G) F m := by rw [← hC]; rfl
  have hl1 : C.live 2 = [0, 1, 7, 8] := by rw [← hC]; rfl
  have hl2 : C.live 100002 = [4] := by rw [← hC]; rfl
  have hL := fun st h => loop_ix (G := G) htt hlin hreg hcall rfl nl a ha p hg a 0 F st rfl (by omega) hF h
  simp [htt, hlin, hreg, reg146, hcall, ev_loop, hl1, hl2, cellsL_len]
  rw [hL _ (by simp)]
  split
  · rename_i h; simp [htt, hlin, hreg, reg146]
  · rename_i h
    have : firstIx p 0 a = -1 := by
      have : ∀ (l : List Tlv) (i : Nat), ¬ (0 ≤ firstIx p i l) → firstIx p i l = -1 := by
        intro l
        induction l with
        | nil => intro i _; rfl
        | cons x l ih =>
          intro i hi
          simp only [firstIx] at hi ⊢
          split at hi
          · omega
          · rename_i hn; rw [if_neg hn]; exact ih _ hi
      exact this a 0 h
    simp [htt, hlin, hreg, reg146, this]
theorem t_contains (F m g : Nat) (nl : Bool) (a : List Tlv) (ha : a.length ≤ 140737488355328) (hF : a.length < F) (p : Tlv → Bool)
    (hg : ∀ x ∈ a, callN (envG G) F m g [.d (.agg x.cells)] = some ⟨[.d (.bool (p x))], []⟩) :
    callN (envG G) F (m+2) 132 [.d (.sl 5 nl (Tlv.cellsL a)), .fn g []] = some ⟨[.d (.bool (a.any p))], []⟩ := by
  rw [callN_run (fn := Tryd.f132) rfl rfl rfl (by simp [Tryd.ntmps132])]
  generalize hC : (envG G).ctx 132 (callN (envG G) F (m+1)) (callP (envG G) F (m+1)) = C
  have htt : C.tt = (envG G).tt := by rw [← hC]; rfl
  have hlin : C.lin = [] := by rw [← hC]; rfl
  have hreg : C.reg = reg132 := by rw [← hC]; rfl
  have hcall : C.call = callN (envG G) F (m+1) := by rw [← hC]; rfl
  have k1 := t_ix (G := G) F m g nl a ha hF p hg
  rw [← firstIx_any p 0 a]
  simp [htt, hlin, hreg, reg132, hcall, k1]
end Go.Proofs.YtjmcgdhekjkjfaaDoor
set_option linter.unusedSimpArgs false
set_option linter.unusedVariables false
namespace Go.Proofs.YtjmcgdhekjkjfaaDoor
open Go Go.VM
variable {G : GE}
set_option maxRecDepth 100000
set_option maxHeartbeats 4000000
theorem fineL_any : ∀ l : List Tlv, (!l.any fun k => !k.fine) = Tlv.fineL l
  | [] => rfl
  | x :: l => by simp only [List.any_cons, Tlv.fineL, Bool.not_or, Bool.not_not, fineL_any l]
theorem t_fine1 (F m : Nat) (x : Tlv) (r : Bool) (h : callN (envG G) F m 105 [.d (.agg x.cells)] = some ⟨[.d (.bool r)], []⟩) :
    callN (envG G) F (m+1) 133 [.d (.agg x.cells)] = some ⟨[.d (.bool (!r))], []⟩ := by
  obtain ⟨c, t, md, bn, b, kn, ks⟩ := x
  simp only [Tlv.cells] at h ⊢
  rw [callN_run (fn := Tryd.f133) rfl rfl rfl (by simp [Tryd.ntmps133])]
  generalize hC : (envG G).ctx 133 (callN (envG G) F m) (callP (envG G) F m) = C
  have htt : C.tt = (envG G).tt := by rw [← hC]; rfl
  have hlin : C.lin = [] := by rw [← hC]; rfl
  have hreg : C.reg = reg133 := by rw [← hC]; rfl
  have hcall : C.call = callN (envG G) F m := by rw [← hC]; rfl
  simp [htt, hlin, hreg, reg133, hcall, h]
theorem t_fine (F : Nat) (hF : F ≤ 140737488355328) (B : Nat) (hB : B < F) : ∀ (d n : Nat) (x : Tlv), x.depth ≤ d → x.width B →
    callN (envG G) F (n + 4 * d) 105 [.d (.agg x.cells)] = some ⟨[.d (.bool x.fine)], []⟩ := by
  intro d
  induction d with
  | zero => intro n x hd; cases x; simp [Tlv.depth] at hd
  | succ d ih =>
    intro n x hd hw
    obtain ⟨c, t, m, bn, b, kn, ks⟩ := x
    simp only [Tlv.depth] at hd
    simp only [Tlv.width] at hw
    have k1 := t_contains (G := G) F (n + 4 * d + 1) 133 kn ks (by omega) (by omega) (fun k => !k.fine) (fun x hx =>
      t_fine1 (G := G) F (n + 4 * d) x x.fine (ih n x (by have := depthL_mem hx; omega) (widthL_mem hw.2.2 hx)))
    simp only [Tlv.cells]
    rw [show n + 4 * (d + 1) = n + 4 * d + 3 + 1 by omega, callN_run (fn := Tryd.f105) rfl rfl rfl (by simp [Tryd.ntmps105])]
    generalize hC : (envG G).ctx 105 (callN (envG G) F (n + 4 * d + 3)) (callP (envG G) F (n + 4 * d + 3)) = C
    have htt : C.tt = (envG G).tt := by rw [← hC]; rfl
    have hlin : C.lin = [] := by rw [← hC]; rfl
    have hreg : C.reg = reg105 := by rw [← hC]; rfl
    have hcall : C.call = callN (envG G) F (n + 4 * d + 3) := by rw [← hC]; rfl
    have hf : (Tlv.mk c t m bn b kn ks).fine = (decide (0 ≤ c ∧ c ≤ 3 ∧ 0 ≤ t ∧ t ≤ 30 ∧ (m = true → b = []) ∧ (m = false → ks = [])) && (!ks.any fun k => !k.fine)) := by rw [Tlv.fine, fineL_any]
    rw [hf]
    clear hf ih
    generalize (ks.any fun k => !k.fine) = r at *
    simp [htt, hlin, hreg, reg105, hcall, k1, cellsL_len]
    repeat' (first
      | done
      | (refine condE_elim (fun hb => ?_) (fun hb => ?_) <;> (try simp only [Bool.not_eq_true', Bool.not_eq_false', Bool.not_eq_true, Bool.not_eq_false, decide_eq_true_eq, decide_eq_false_iff_not, Decidable.not_not] at hb) <;> (try simp [hb, htt, hlin, hreg, reg105, hcall, k1, cellsL_len])))
    all_goals (intros; first | omega | exact ⟨by omega, by omega, by omega, by omega, List.length_eq_zero_iff.1 (by omega)⟩ | (rename_i h; subst h; simp at *; done) | (rename_i h; subst h; simp_all; done) | trace_state)
end Go.Proofs.YtjmcgdhekjkjfaaDoor
set_option linter.unusedSimpArgs false
set_option linter.unusedVariables false
namespace Go.Proofs.YtjmcgdhekjkjfaaDoor
open Go Go.VM
variable {G : GE}
set_option maxRecDepth 100000
set_option maxHeartbeats 4000000
theorem loop_ixP {C : Ctx} {F m g : Nat} (B : Blk) (hB : refsB (some B) = []) (hB2 : ∀ ρ, renB ρ (some B) = some (some B)) (hB3 : oldB 1 (some B) = some B) (htt : C.tt = (envG G).tt) (hlin : C.lin = []) (hreg : C.reg = reg146) (hcall : C.callP = callP (envG G) F m) {c : Code}
    (hc : loopAt 2 Tryd.f146 = some c) (nl : Bool) (a : List Tlv) (ha : a.length ≤ 140737488355328) (p : Tlv → Bool)
    (hg : ∀ x ∈ a, callP (envG G) F m g [.d (.agg x.cells), .ptr 0 0] [some B] [] = some ⟨[.d (.bool (p x))], [], [some B], []⟩) :
    ∀ (us : List Tlv) (i k : Nat) (st : St), a.drop i = us → i ≤ a.length → us.length < k →
      st.trim 1 [0, 1, 7, 8] = ⟨[(0, .d (.sl 5 nl (Tlv.cellsL a))), (1, .fn g [.ptr 0 0]), (7, .d (.int .i64 a.length)), (8, .d (.int .i64 i))], [some B], []⟩ →
      iter (ev C F c) 1 [0, 1, 7, 8] [4] k st = if 0 ≤ firstIx p i us then some (.ret, ⟨[(4, .d (.int .i64 (firstIx p i us)))], [some B], []⟩) else some (.exit 0, ⟨[], [some B], []⟩) := by
  have hev : ∀ st, ev C F c st = ev C F ((loopAt 2 Tryd.f146).getD .skip) st := fun st => by rw [hc]; rfl
  intro us
  induction us with
  | nil =>
    intro i k st hd hi hk hst
    obtain ⟨k, rfl⟩ : ∃ j, k = j + 1 := ⟨k - 1, by simp at hk; omega⟩
    have h0 := drop_nil hd
    have e0 : ¬ ((i : Int) < (a.length : Int)) := by omega
    rw [iter_eq, hst, hev]
    simp [loopAt, findLoop, Tryd.f146, htt, hlin, hreg, reg146, e0, firstIx]
  | cons x us ih =>
    intro i k st hd hi hk hst
    obtain ⟨k, rfl⟩ : ∃ j, k = j + 1 := ⟨k - 1, by simp at hk; omega⟩
    simp at hk
    obtain ⟨hd2, hlt⟩ := drop_succ hd
    have ra := cellsL_at hd
    have hx := hg x (List.mem_of_getElem? (at_of_drop hd))
    have l5 := cells_five x
    have e0 : (i : Int) < (a.length : Int) := by omega
    have e1 : (i : Int) + 1 ≤ 9223372036854775807 := by omega
    have e3 : (0 : Int) ≤ (i : Int) := by omega
    have e2 : (-9223372036854775808 : Int) ≤ (i : Int) + 1 := by omega
    have ih' := fun st h => ih (i + 1) k st hd2 (by omega) hk h
    rw [iter_eq, hst, hev]
    obtain ⟨c1, t, md, bn, b, kx, ks⟩ := x
    simp only [Tlv.cells] at ra hx
    cases hp : p (.mk c1 t md bn b kx ks) with
    | true =>
      rw [hp] at hx
      simp [loopAt, findLoop, Tryd.f146, htt, hlin, hreg, reg146, hcall, hB, hB2, hB3, e0, e1, e2, e3, ra, hx, firstIx, hp]
    | false =>
      rw [hp] at hx
      simp [loopAt, findLoop, Tryd.f146, htt, hlin, hreg, reg146, hcall, hB, hB2, hB3, e0, e1, e2, e3, ra, hx, firstIx, hp]
      exact ih' _ (by simp [hB3])
theorem firstIx_neg (p : Tlv → Bool) : ∀ (l : List Tlv) (i : Nat), ¬ (0 ≤ firstIx p i l) → firstIx p i l = -1
  | [], i, _ => rfl
  | x :: l, i, hi => by
    simp only [firstIx] at hi ⊢
    split at hi
    · omega
    · rename_i hn; rw [if_neg hn]; exact firstIx_neg p l _ hi
theorem t_ixP (F m g : Nat) (k0 : IntKind) (z : Int) (nl : Bool) (a : List Tlv) (ha : a.length ≤ 140737488355328) (hF : a.length < F) (p : Tlv → Bool)
    (hg : ∀ x ∈ a, callP (envG G) F m g [.d (.agg x.cells), .ptr 0 0] [some (.cells false [.d (.int k0 z)])] [] = some ⟨[.d (.bool (p x))], [], [some (.cells false [.d (.int k0 z)])], []⟩) :
    callP (envG G) F (m+1) 146 [.d (.sl 5 nl (Tlv.cellsL a)), .fn g [.ptr 0 0]] [some (.cells false [.d (.int k0 z)])] [] = some ⟨[.d (.int .i64 (firstIx p 0 a))], [], [some (.cells false [.d (.int k0 z)])], []⟩ := by
  rw [callP_run (fn := Tryd.f146) rfl rfl rfl (by simp [Tryd.ntmps146])]
  generalize hC : (envG G).ctx 146 (callN (envG G) F m) (callP (envG G) F m) = C
  have htt : C.tt = (envG G).tt := by rw [← hC]; rfl
  have hlin : C.lin = [] := by rw [← hC]; rfl
  have hreg : C.reg = reg146 := by rw [← hC]; rfl
  have hcall : C.callP = callP (envG G) F m := by rw [← hC]; rfl
  have hl1 : C.live 2 = [0, 1, 7, 8] := by rw [← hC]; rfl
  have hl2 : C.live 100002 = [4] := by rw [← hC]; rfl
  have hL := fun st h => loop_ixP (G := G) (.cells false [.d (.int k0 z)]) rfl (fun ρ => rfl) rfl htt hlin hreg hcall rfl nl a ha p hg a 0 F st rfl (by omega) hF h
  simp [htt, hlin, hreg, reg146, hcall, ev_loop, hl1, hl2, cellsL_len]
  rw [hL _ (by simp)]
  split
  · rename_i h; simp [htt, hlin, hreg, reg146]
  · rename_i h
    simp [htt, hlin, hreg, reg146, firstIx_neg p a 0 h]
theorem t_containsP (F m g : Nat) (k0 : IntKind) (z : Int) (nl : Bool) (a : List Tlv) (ha : a.length ≤ 140737488355328) (hF : a.length < F) (p : Tlv → Bool)
    (hg : ∀ x ∈ a, callP (envG G) F m g [.d (.agg x.cells), .ptr 0 0] [some (.cells false [.d (.int k0 z)])] [] = some ⟨[.d (.bool (p x))], [], [some (.cells false [.d (.int k0 z)])], []⟩) :
    callP (envG G) F (m+2) 132 [.d (.sl 5 nl (Tlv.cellsL a)), .fn g [.ptr 0 0]] [some (.cells false [.d (.int k0 z)])] [] = some ⟨[.d (.bool (a.any p))], [], [some (.cells false [.d (.int k0 z)])], []⟩ := by
  rw [callP_run (fn := Tryd.f132) rfl rfl rfl (by simp [Tryd.ntmps132])]
  generalize hC : (envG G).ctx 132 (callN (envG G) F (m+1)) (callP (envG G) F (m+1)) = C
  have htt : C.tt = (envG G).tt := by rw [← hC]; rfl
  have hlin : C.lin = [] := by rw [← hC]; rfl
  have hreg : C.reg = reg132 := by rw [← hC]; rfl
  have hcall : C.callP = callP (envG G) F (m+1) := by rw [← hC]; rfl
  have k1 := t_ixP (G := G) F m g k0 z nl a ha hF p hg
  rw [← firstIx_any p 0 a]
  simp [htt, hlin, hreg, reg132, hcall, k1]
def deepB (x : Tlv) (z : Int) : Bool := decide (z < x.depth)
theorem deepL_any (z : Int) (hz : 1 ≤ z) : ∀ l : List Tlv, (l.any fun k => deepB k (z - 1)) = decide (z - 1 < Tlv.depthL l)
  | [] => by
    have : ¬ (z - 1 < ((0 : Nat) : Int)) := by omega
    simp only [List.any_nil, Tlv.depthL, this, decide_false]
  | x :: l => by
    rw [List.any_cons, deepL_any z hz l]
    show (decide (z - 1 < (x.depth : Int)) || decide (z - 1 < (Tlv.depthL l : Int))) = decide (z - 1 < ((max x.depth (Tlv.depthL l) : Nat) : Int))
    by_cases h1 : z - 1 < (x.depth : Int)
    · have : z - 1 < ((max x.depth (Tlv.depthL l) : Nat) : Int) := by omega
      simp only [h1, this, decide_true, Bool.true_or]
    · by_cases h2 : z - 1 < (Tlv.depthL l : Int)
      · have : z - 1 < ((max x.depth (Tlv.depthL l) : Nat) : Int) := by omega
        simp only [h1, h2, this, decide_true, Bool.or_true]
      · have : ¬ (z - 1 < ((max x.depth (Tlv.depthL l) : Nat) : Int)) := by omega
        simp only [h1, h2, this, decide_false, Bool.or_false]
theorem t_deep1 (F m : Nat) (x : Tlv) (z : Int) (h1 : -9223372036854775808 ≤ z - 1) (h2 : z - 1 ≤ 9223372036854775807) (r : Bool) (h : callN (envG G) F m 106 [.d (.agg x.cells), .d (.int .i64 (z - 1))] = some ⟨[.d (.bool r)], []⟩) :
    callP (envG G) F (m+1) 134 [.d (.agg x.cells), .ptr 0 0] [some (.cells false [.d (.int .i64 z)])] [] = some ⟨[.d (.bool r)], [], [some (.cells false [.d (.int .i64 z)])], []⟩ := by
  obtain ⟨c, t, md, bn, b, kn, ks⟩ := x
  simp only [Tlv.cells] at h ⊢
  rw [callP_run (fn := Tryd.f134) rfl rfl rfl (by simp [Tryd.ntmps134])]
  generalize hC : (envG G).ctx 134 (callN (envG G) F m) (callP (envG G) F m) = C
  have htt : C.tt = (envG G).tt := by rw [← hC]; rfl
  have hlin : C.lin = [] := by rw [← hC]; rfl
  have hreg : C.reg = reg134 := by rw [← hC]; rfl
  have hcall : C.call = callN (envG G) F m := by rw [← hC]; rfl
  simp [htt, hlin, hreg, reg134, hcall, h, h1, h2]
theorem t_deep (F : Nat) (hF : F ≤ 140737488355328) (B : Nat) (hB : B < F) : ∀ (d n : Nat) (x : Tlv) (z : Int), x.depth ≤ d → x.width B → -9223372036854775808 ≤ z → z ≤ 9223372036854775807 →
    callN (envG G) F (n + 4 * d) 106 [.d (.agg x.cells), .d (.int .i64 z)] = some ⟨[.d (.bool (deepB x z))], []⟩ := by
  intro d
  induction d with
  | zero => intro n x z hd; cases x; simp [Tlv.depth] at hd
  | succ d ih =>
    intro n x z hd hw hz1 hz2
    obtain ⟨c, t, m, bn, b, kn, ks⟩ := x
    simp only [Tlv.depth] at hd
    simp only [Tlv.width] at hw
    rw [show n + 4 * (d + 1) = n + 4 * d + 3 + 1 by omega, callN_run (fn := Tryd.f106) rfl rfl rfl (by simp [Tryd.ntmps106])]
    generalize hC : (envG G).ctx 106 (callN (envG G) F (n + 4 * d + 3)) (callP (envG G) F (n + 4 * d + 3)) = C
    have htt : C.tt = (envG G).tt := by rw [← hC]; rfl
    have hlin : C.lin = [] := by rw [← hC]; rfl
    have hreg : C.reg = reg106 := by rw [← hC]; rfl
    have hcall : C.callP = callP (envG G) F (n + 4 * d + 3) := by rw [← hC]; rfl
    by_cases h1 : z < 1
    · have e : deepB (.mk c t m bn b kn ks) z = true := by
        have h2 : z < ((Tlv.depthL ks + 1 : Nat) : Int) := by omega
        unfold deepB
        exact decide_eq_true h2
      simp only [Tlv.cells]
      rw [e]
      simp [htt, hlin, hreg, reg106, hcall, h1]
    · have e : deepB (.mk c t m bn b kn ks) z = ks.any fun k => deepB k (z - 1) := by
        rw [deepL_any z (by omega)]
        simp only [deepB, Tlv.depth]
        congr 1
        apply propext
        omega
      have hk1 : ks.length ≤ B := hw.2.1
      have k1 := t_containsP (G := G) F (n + 4 * d + 1) 134 .i64 z kn ks (by omega) (by omega) (fun k => deepB k (z - 1)) (fun x hx =>
        t_deep1 (G := G) F (n + 4 * d) x z (by omega) (by omega) (deepB x (z - 1)) (ih n x (z - 1) (by have := depthL_mem hx; omega) (widthL_mem hw.2.2 hx) (by omega) (by omega)))
      simp only [Tlv.cells]
      rw [e]
      simp [htt, hlin, hreg, reg106, hcall, h1, k1]
end Go.Proofs.YtjmcgdhekjkjfaaDoor
set_option linter.unusedSimpArgs false
set_option linter.unusedVariables false
namespace Go.Proofs.YtjmcgdhekjkjfaaDoor
open Go Go.VM
variable {G : GE}
set_option maxRecDepth 100000
set_option maxHeartbeats 4000000
def headN (n : Int) : Int := if n < 128 then 2 else if n < 256 then 3 else if n < 65536 then 4 else 5
theorem t_head (F n : Nat) (k : Int) : callN (envG G) F (n+1) 108 [.d (.int .i64 k)] = some ⟨[.d (.int .i64 (headN k))], []⟩ := by
  rw [callN_run (fn := Tryd.f108) rfl rfl rfl (by simp [Tryd.ntmps108])]
  generalize hC : (envG G).ctx 108 (callN (envG G) F n) (callP (envG G) F n) = C
  have htt : C.tt = (envG G).tt := by rw [← hC]; rfl
  have hlin : C.lin = [] := by rw [← hC]; rfl
  have hreg : C.reg = reg108 := by rw [← hC]; rfl
  simp [htt, hlin, hreg, reg108]
  unfold headN
  repeat (first | (simp only [condE_ite, decide_eq_true_eq]; split) | (simp [htt, hlin, hreg, reg108, *]))
end Go.Proofs.YtjmcgdhekjkjfaaDoor
