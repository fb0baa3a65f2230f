/- Sets of named bits: contents octets and sets are one to one. Plain Lean over the functions of the walks. -/
import Derived.Test.YtaenfbgamkieiaaF12
namespace Go.Proofs.Ytaenfbgamkieiaa
open Go.Am
set_option linter.unusedSimpArgs false
set_option linter.unusedVariables false

theorem rev_ind {P : List Nat → Prop} (h0 : P []) (hs : ∀ q m, P q → P (q ++ [m])) (l : List Nat) : P l := by
  have : ∀ n (l : List Nat), l.length = n → P l := by
    intro n
    induction n with
    | zero => intro l hl; rw [List.length_eq_zero_iff.1 hl]; exact h0
    | succ n ih =>
      intro l hl
      rcases List.eq_nil_or_concat l with rfl | ⟨q, m, rfl⟩
      · simp at hl
      · rw [List.concat_eq_append] at hl ⊢
        exact hs q m (ih q (by simpa using hl))
  exact this _ l rfl
theorem byteP_bit (ms : List Nat) : Inc ms → ∀ j k, k < 8 → (byteP ms j).testBit (7 - k) = decide (8 * j + k ∈ ms) := by
  induction ms using rev_ind with
  | h0 => intro _ j k _; simp [byteP_nil]
  | hs q m ih =>
    intro h j k hk
    obtain ⟨h1, h2⟩ := inc_snoc h
    rw [byteP_snoc]
    by_cases hj : m / 8 = j
    · subst hj
      rw [if_pos rfl, ← byteP_or q m h2, Nat.testBit_or, ih h1 _ k hk, Nat.testBit_two_pow]
      by_cases h3 : 8 * (m / 8) + k = m
      · have h4 : 7 - m % 8 = 7 - k := by omega
        simp [h3, h4]
      · have h4 : ¬ 7 - m % 8 = 7 - k := by omega
        simp [h3, h4]
    · have h3 : ¬ 8 * j + k = m := by omega
      rw [if_neg hj, Nat.add_zero, ih h1 j k hk]
      simp [h3]

/-- What is known of the contents octets of a set. -/
theorem nam_facts (S : Nat) (hS : S < 9223372036854775808) : ∃ x u L, decF (namF S) = (x, (u : Int), 0) ∧ lenF x (u : Int) = ((L : Nat) : Int) ∧ (∀ i : Nat, i < L → atF x (u : Int) (i : Int) = S.testBit i) ∧ S < 2 ^ L ∧ (0 < L → S.testBit (L - 1) = true) ∧ (∀ K, S < 2 ^ K → L ≤ K) ∧ x.length ≤ 10 ∧ (u : Int) ≤ 7 ∧ (0 : Int) ≤ u := by
  rcases List.eq_nil_or_concat (memF S) with he | ⟨q, m, he⟩
  · have h0 := memF_nil hS he
    subst h0
    refine ⟨[], 0, 0, by decide, by decide, by omega, by simp, by omega, by omega, by simp, by omega, by omega⟩
  · rw [List.concat_eq_append] at he
    have hn : namF S = outP (q ++ [m]) m := by simp [namF, he]
    have hinc : Inc (q ++ [m]) := by rw [← he]; exact memF_inc S
    have hv := outP_valid q m hinc
    have hcons : outP (q ++ [m]) m = UInt8.ofNat (7 - m % 8) :: (outP (q ++ [m]) m).tail := rfl
    have hu : ((UInt8.ofNat (7 - m % 8)).toNat : Int) = ((7 - m % 8 : Nat) : Int) := by
      simp [UInt8.toNat_ofNat']
      omega
    have hm : S.testBit m = true := by
      have : m ∈ memF S := by rw [he]; simp
      exact (List.mem_filter.1 this).2
    have hm64 : m < 64 := by
      have : m ∈ memF S := by rw [he]; simp
      exact List.mem_range.1 (List.mem_filter.1 this).1
    have htl : ((outP (q ++ [m]) m).tail).length = m / 8 + 1 := by simp [outP]
    have hlen : lenF (outP (q ++ [m]) m).tail ((7 - m % 8 : Nat) : Int) = ((m + 1 : Nat) : Int) := by
      rw [lenF, hv]
      simp only [htl]
      omega
    refine ⟨(outP (q ++ [m]) m).tail, ((7 - m % 8 : Nat) : Int), m + 1, ?_, hlen, ?_, (memF_last hS he).2, fun _ => by simpa using hm, fun K hK => ?_, by rw [htl]; omega, by omega, by omega⟩
    · rw [hn, hcons]
      simp only [decF, hu, hv, List.tail_cons]
    · intro i hi
      have h1 : ((i : Int) / 8).toNat = i / 8 := by omega
      have h2 : (7 - (i : Int) % 8).toNat = 7 - i % 8 := by omega
      have h3 : ((outP (q ++ [m]) m).tail).getD (i / 8) 0 = UInt8.ofNat (byteP (q ++ [m]) (i / 8)) := by
        have : i / 8 < m / 8 + 1 := by omega
        simp [outP, List.getElem?_map, List.getElem?_range, this]
      have h4 := byteP_lt _ hinc (i / 8)
      have h5 : (UInt8.ofNat (byteP (q ++ [m]) (i / 8))).toNat = byteP (q ++ [m]) (i / 8) := by
        simp [UInt8.toNat_ofNat']
        omega
      rw [atF, hlen, h1, h2, h3, h5, byteP_bit _ hinc _ _ (by omega), show 8 * (i / 8) + i % 8 = i by omega, ← he]
      have h6 : (0 : Int) ≤ i := by omega
      have h7 : (i : Int) < ((m + 1 : Nat) : Int) := by omega
      simp only [h6, h7, decide_true, Bool.true_and]
      rw [Bool.eq_iff_iff, decide_eq_true_eq]
      constructor
      · intro h; exact (List.mem_filter.1 h).2
      · intro h; exact mem_memF hS h
    · have h1 := (memF_last hS he).1
      rcases Nat.lt_or_ge m K with h2 | h2
      · omega
      · have := Nat.pow_le_pow_right (show 0 < 2 by omega) h2
        omega
theorem setTo_eq (f : Nat → Bool) (S k : Nat) (hS : S < 2 ^ k) (h : ∀ i, i < k → f i = S.testBit i) : setTo f k = S := by
  apply Nat.eq_of_testBit_eq
  intro i
  rw [setTo_bit]
  rcases Nat.lt_or_ge i k with hi | hi
  · simp [hi, h i hi]
  · have : ¬ i < k := by omega
    rw [Nat.testBit_lt_two_pow (Nat.lt_of_lt_of_le hS (Nat.pow_le_pow_right (by omega) hi))]
    simp [this]
theorem dnF_nam (S : Nat) (k : Int) (h1 : 1 ≤ k) (h2 : k ≤ 32) (hS : S < 2 ^ k.toNat) : dnF (namF S) k = ((S : Int), 0) := by
  have h63 : S < 9223372036854775808 := Nat.lt_of_lt_of_le hS (Nat.le_trans (Nat.pow_le_pow_right (by omega) (show k.toNat ≤ 32 by omega)) (by decide))
  obtain ⟨x, u, L, e1, e2, e3, e4, e5, e6, e7, e8, e9⟩ := nam_facts S h63
  have hL := e6 _ hS
  unfold dnF
  rw [e1]
  have hk : decide (k < 1 ∨ k > 32) = false := by simp; omega
  have hb : decide ((0 : Int) ≠ 0 ∨ lenF x u > k ∨ (lenF x u > 0 ∧ atF x u (lenF x u - 1) = false)) = false := by
    simp only [ne_eq, not_true_eq_false, false_or, decide_eq_false_iff_not, not_or, not_and, Bool.not_eq_false]
    rw [e2]
    refine ⟨by omega, fun h0 => ?_⟩
    have h3 : ((L : Int) - 1) = ((L - 1 : Nat) : Int) := by omega
    rw [h3, e3 _ (by omega)]
    exact e5 (by omega)
  simp only [hk, hb]
  rw [e2, Int.toNat_natCast, setTo_eq (bitF x u) S L e4 (fun i hi => e3 i hi)]

/-- The other way: what is decoded as a set has the contents octets of that set, and no others. -/
theorem dnF_ok (c : List UInt8) (k s : Int) (h : dnF c k = (s, 0)) : 1 ≤ k ∧ k ≤ 32 ∧ ∃ S : Nat, s = S ∧ S < 2 ^ k.toNat ∧ namF S = c ∧ setTo (bitF (decF c).1 (decF c).2.1) k.toNat = S := by
  unfold dnF at h
  cases hk : decide (k < 1 ∨ k > 32) with
  | true => rw [hk] at h; simp at h
  | false =>
    rw [hk] at h
    have hk' : 1 ≤ k ∧ k ≤ 32 := by simp at hk; omega
    refine ⟨hk'.1, hk'.2, ?_⟩
    rcases decF_cases c with hd | ⟨b, x, rfl, hv, hd⟩
    · rw [hd] at h
      simp at h
    rw [hd] at h ⊢
    simp only at h ⊢
    cases hb : decide ((0 : Int) ≠ 0 ∨ lenF x b.toNat > k ∨ (lenF x b.toNat > 0 ∧ atF x b.toNat (lenF x b.toNat - 1) = false)) with
    | true => rw [hb] at h; simp at h
    | false =>
      rw [hb] at h
      simp only [Prod.mk.injEq, and_true] at h
      simp only [ne_eq, not_true_eq_false, false_or, decide_eq_false_iff_not, not_or, not_and, Bool.not_eq_false] at hb
      obtain ⟨hb1, hb2⟩ := hb
      have hL0 := lenF_nonneg x b.toNat
      obtain ⟨L, hL⟩ := Int.eq_ofNat_of_zero_le hL0
      rw [hL] at h hb1 hb2
      simp only [Int.toNat_natCast] at h
      have hr := valF_range hv
      have hlx : (L : Int) = 8 * x.length - b.toNat := by rw [← hL, lenF, hv]
      have hlt := setTo_lt (bitF x b.toNat) L
      have hLk : L ≤ k.toNat := by omega
      have hbit : ∀ i : Nat, L ≤ i → bitF x b.toNat i = false := by
        intro i hi
        have : ¬ (i : Int) < (L : Int) := by omega
        simp [bitF, atF, hL, this]
      obtain ⟨S, hSd⟩ : ∃ S, S = setTo (bitF x b.toNat) L := ⟨_, rfl⟩
      rw [← hSd] at h hlt
      have hSb : ∀ i, S.testBit i = bitF x b.toNat i := by
        intro i
        rw [hSd, setTo_bit]
        rcases Nat.lt_or_ge i L with hi | hi
        · simp [hi]
        · have : ¬ i < L := by omega
          simp [this, hbit i hi]
      have hS63 : S < 9223372036854775808 := Nat.lt_of_lt_of_le hlt (Nat.le_trans (Nat.pow_le_pow_right (by omega) (show L ≤ 32 by omega)) (by decide))
      refine ⟨S, h.symm, Nat.lt_of_lt_of_le hlt (Nat.pow_le_pow_right (by omega) hLk), ?_, setTo_eq _ _ _ (Nat.lt_of_lt_of_le hlt (Nat.pow_le_pow_right (by omega) hLk)) (fun i _ => (hSb i).symm)⟩
      rcases Nat.eq_zero_or_pos L with h0 | h0
      · subst h0
        have hx0 : x = [] := by
          cases x with
          | nil => rfl
          | cons y x => simp at hlx; omega
        subst hx0
        have hb0 : b.toNat = 0 := by simp [valF] at hv; exact hv
        have hS0 : S = 0 := by simp at hlt; exact hlt
        have hbz : b = 0 := UInt8.toNat_inj.1 (by rw [hb0]; rfl)
        rw [hS0, hbz]
        decide
      · have hlast : S.testBit (L - 1) = true := by
          have := hb2 (by omega)
          rw [hSb, bitF, show ((L - 1 : Nat) : Int) = (L : Int) - 1 by omega]
          exact this
        rcases List.eq_nil_or_concat (memF S) with he | ⟨q, m, he⟩
        · have h1 := mem_memF hS63 hlast
          rw [he] at h1
          cases h1
        · rw [List.concat_eq_append] at he
          have hml := memF_last hS63 he
          have hm : m = L - 1 := by
            have h1 : m < L := (memF_lt hS63 he).2 hlt
            have h2 : L - 1 < m + 1 := by
              rcases Nat.lt_or_ge (L - 1) (m + 1) with h3 | h3
              · exact h3
              · rw [Nat.testBit_lt_two_pow (Nat.lt_of_lt_of_le hml.2 (Nat.pow_le_pow_right (by omega) h3))] at hlast
                cases hlast
            omega
          have hinc : Inc (q ++ [m]) := by rw [← he]; exact memF_inc S
          have hn : namF S = outP (q ++ [m]) m := by simp [namF, he]
          have hxl : x.length = m / 8 + 1 := by omega
          have hub : b.toNat = 7 - m % 8 := by omega
          rw [hn, outP]
          congr 1
          · rw [← hub]; simp
          · apply List.ext_getElem
            · simp [hxl]
            · intro j hj1 hj2
              simp only [List.getElem_map, List.getElem_range]
              have hbl := byteP_lt _ hinc j
              apply UInt8.toNat_inj.1
              rw [show (UInt8.ofNat (byteP (q ++ [m]) j)).toNat = byteP (q ++ [m]) j by simp [UInt8.toNat_ofNat']; omega]
              have hxj : x[j].toNat < 256 := x[j].toNat_lt
              apply Nat.eq_of_testBit_eq
              intro i
              rcases Nat.lt_or_ge i 8 with hi | hi
              · have e1 := byteP_bit _ hinc j (7 - i) (by omega)
                rw [show 7 - (7 - i) = i by omega] at e1
                rw [e1, ← he]
                have e2 : decide (8 * j + (7 - i) ∈ memF S) = S.testBit (8 * j + (7 - i)) := by
                  rw [Bool.eq_iff_iff, decide_eq_true_eq]
                  exact ⟨fun h => (List.mem_filter.1 h).2, fun h => mem_memF hS63 h⟩
                rw [e2, hSb, bitF, atF, hL]
                have e3 : (((8 * j + (7 - i) : Nat) : Int) / 8).toNat = j := by omega
                have e4 : (7 - ((8 * j + (7 - i) : Nat) : Int) % 8).toNat = i := by omega
                rw [e3, e4, List.getD_eq_getElem?_getD, List.getElem?_eq_getElem hj2]
                have e5 : (0 : Int) ≤ ((8 * j + (7 - i) : Nat) : Int) := by omega
                simp only [e5, decide_true, Bool.true_and, Option.getD_some]
                rcases Nat.lt_or_ge (8 * j + (7 - i)) L with h5 | h5
                · have : ((8 * j + (7 - i) : Nat) : Int) < (L : Int) := by omega
                  rw [decide_eq_true this, Bool.true_and]
                · have h6 : ¬ ((8 * j + (7 - i) : Nat) : Int) < (L : Int) := by omega
                  simp only [h6, decide_false, Bool.false_and]
                  -- an unused bit of the last octet
                  have h7 : j = x.length - 1 := by omega
                  have hv2 : x[j].toNat % 2 ^ b.toNat = 0 := by
                    cases x with
                    | nil => simp at hj2
                    | cons y x =>
                      simp only [valF, decide_eq_true_eq] at hv
                      have := hv.2.2
                      rw [List.getD_eq_getElem?_getD, List.getElem?_eq_getElem (by simp)] at this
                      simpa [h7] using this
                  have h8 : i < b.toNat := by omega
                  have h9 := Nat.testBit_mod_two_pow x[j].toNat b.toNat i
                  rw [hv2] at h9
                  simp [h8] at h9
                  exact h9.symm
              · rw [Nat.testBit_lt_two_pow (Nat.lt_of_lt_of_le hbl (Nat.le_trans (show 256 ≤ 2 ^ 8 by decide) (Nat.pow_le_pow_right (by omega) hi))),
                  Nat.testBit_lt_two_pow (Nat.lt_of_lt_of_le hxj (Nat.le_trans (show 256 ≤ 2 ^ 8 by decide) (Nat.pow_le_pow_right (by omega) hi)))]
theorem dnF_code (c : List UInt8) (k : Int) : (dnF c k).2 = 0 ∨ (dnF c k = (0, 9) ∧ (k < 1 ∨ k > 32)) ∨ (dnF c k = (0, 6) ∧ 1 ≤ k ∧ k ≤ 32) := by
  unfold dnF
  cases hk : decide (k < 1 ∨ k > 32) with
  | true => simp at hk; simp; omega
  | false =>
    simp at hk
    simp only
    split
    · right; right; exact ⟨rfl, by omega, by omega⟩
    · left; rfl
theorem rdnF_eq (c : List UInt8) (k : Int) : rdnF c k = dnF c k := by
  rcases dnF_code c k with h | ⟨h, hk⟩ | ⟨h, h1, h2⟩
  · obtain ⟨h1, h2, S, h3, h4, h5, h6⟩ := dnF_ok c k (dnF c k).1 (by rw [← h])
    have hk : decide (k < 1 ∨ k > 32) = false := by simp; omega
    unfold rdnF
    rw [hk]
    simp only [h6, h5, decide_true]
    rw [← h3, ← h]
  · rw [h]
    have hk : decide (k < 1 ∨ k > 32) = true := by simp; omega
    unfold rdnF
    rw [hk]
  · rw [h]
    have hk : decide (k < 1 ∨ k > 32) = false := by simp; omega
    unfold rdnF
    rw [hk]
    simp only
    cases hn : decide (namF (setTo (bitF (decF c).1 (decF c).2.1) k.toNat) = c) with
    | false => rfl
    | true =>
      simp only [decide_eq_true_eq] at hn
      have := dnF_nam (setTo (bitF (decF c).1 (decF c).2.1) k.toNat) k h1 h2 (setTo_lt _ _)
      rw [hn, h] at this
      simp at this
end Go.Proofs.Ytaenfbgamkieiaa
