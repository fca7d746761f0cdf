/- Plain laws of the form: what is written is read. -/
import Derived.Test.YtdhkhdeblkbojaaRlpLaw1
import Derived.Test.YtdhkhdeblkbojaaRlpEnc
namespace Go.Proofs.Ytdhkhdeblkbojaa

theorem drop_form {b h t : List UInt8} {p : Nat} (hb : b.drop p = h ++ t) : b.drop (p + h.length) = t := by
  rw [← List.drop_drop, hb]; simp
theorem form_pos : ∀ x : It, (formI x).length ≤ 1048576 → 1 ≤ (formI x).length
  | .mk l b xs, h => by
    rw [formI] at h ⊢
    split
    · rename_i hl
      rw [if_pos hl] at h
      have := headB_len (n := (formL xs).length) (by simp at h; omega) 192
      simp; omega
    · rename_i hl
      rw [if_neg hl] at h
      split
      · omega
      · rename_i hs
        rw [if_neg hs] at h
        have := headB_len (n := b.length) (by simp at h; omega) 128
        simp; omega

mutual
theorem dec_formI : ∀ (x : It) (f : Nat) (b r : List UInt8) (p e d : Nat), mayI x = true → deepI x (80 - d) = false → d ≤ 80 → (formI x).length ≤ 1048576 → b.drop p = formI x ++ r → p + (formI x).length ≤ e → 2 * (e - p) + 1 ≤ f →
    decI f b p e d = .ok x (p + (formI x).length)
  | .mk true bs xs, f, b, r, p, e, d, hm, hd, hd80, hl, hb, he, hf => by
    obtain ⟨f, rfl⟩ : ∃ g, f = g + 1 := ⟨f - 1, by omega⟩
    have e1 : formI (.mk true bs xs) = headB (formL xs).length 192 ++ formL xs := by rw [formI]; rfl
    rw [e1] at hl hb he ⊢
    have hbs : bs = [] ∧ mayL xs = true := by
      rw [mayI] at hm
      simp at hm
      exact ⟨hm.2, hm.1⟩
    obtain ⟨rfl, hmL⟩ := hbs
    have hdd : d < 80 ∧ deepL xs (80 - (d + 1)) = false := by
      rw [deepI] at hd
      simp at hd
      exact ⟨by omega, by rw [show 80 - (d + 1) = 80 - d - 1 by omega]; exact hd.2⟩
    simp only [List.length_append] at hl he ⊢
    rw [List.append_assoc] at hb
    have hp := headB_len (n := (formL xs).length) (by omega) 192
    obtain ⟨h1, h2⟩ := headN_form (.inr rfl) (by omega) hb (by omega : p + (headB (formL xs).length 192).length ≤ e)
    rw [if_pos rfl] at h2
    have hrec := dec_formL xs f b r (p + (headB (formL xs).length 192).length) (d + 1) hmL hdd.2 (by omega) (by omega) (drop_form hb) (by omega)
    rw [decI, if_neg (by omega), if_neg (by omega), if_neg (by omega), h1]
    simp only
    rw [if_neg (by omega), if_pos h2, hrec]
    simp; omega
  | .mk false bs xs, f, b, r, p, e, d, hm, hd, hd80, hl, hb, he, hf => by
    obtain ⟨f, rfl⟩ : ∃ g, f = g + 1 := ⟨f - 1, by omega⟩
    have hxs : xs = [] := by
      rw [mayI] at hm
      simpa using hm
    subst hxs
    by_cases hs : bs.length = 1 ∧ (bs.getD 0 0).toNat < 128
    · have e1 : formI (.mk false bs []) = bs := by rw [formI]; simp only [Bool.false_eq_true, if_false]; rw [if_pos hs]
      rw [e1] at hl hb he ⊢
      match bs, hs with
      | [a], hs =>
        have e2 : b.getD p 0 = a := by rw [getD_drop, hb]; rfl
        simp at hs he ⊢
        rw [decI, if_neg (by omega), if_pos (by rw [e2]; exact hs), e2]
    · have e1 : formI (.mk false bs []) = headB bs.length 128 ++ bs := by rw [formI]; simp only [Bool.false_eq_true, if_false]; rw [if_neg hs]
      rw [e1] at hl hb he ⊢
      simp only [List.length_append] at hl he ⊢
      rw [List.append_assoc] at hb
      have hp := headB_len (n := bs.length) (by omega) 128
      obtain ⟨h1, h2⟩ := headN_form (.inl rfl) (by omega) hb (by omega : p + (headB bs.length 128).length ≤ e)
      rw [if_neg (by decide)] at h2
      have e3 := drop_form hb
      have e4 : (b.drop (p + (headB bs.length 128).length)).take bs.length = bs := by rw [e3]; simp
      have e5 : ¬ (bs.length = 1 ∧ (b.getD (p + (headB bs.length 128).length) 0).toNat < 128) := fun h => hs ⟨h.1, by
        have h3 := h.2
        rw [getD_drop, e3] at h3
        match bs, h.1 with
        | [a], _ => exact h3⟩
      rw [decI, if_neg (by omega), if_neg (by omega), if_neg (by omega), h1]
      simp only
      rw [if_neg (by omega), if_neg (by omega), if_neg e5, e4]
      simp; omega
theorem dec_formL : ∀ (xs : List It) (f : Nat) (b r : List UInt8) (p d : Nat), mayL xs = true → deepL xs (80 - d) = false → d ≤ 80 → (formL xs).length ≤ 1048576 → b.drop p = formL xs ++ r → 2 * (formL xs).length + 2 ≤ f →
    decL f b p (p + (formL xs).length) d = .ok xs (p + (formL xs).length)
  | [], f, b, r, p, d, hm, hd, hd80, hl, hb, hf => by
    obtain ⟨f, rfl⟩ : ∃ g, f = g + 1 := ⟨f - 1, by omega⟩
    rw [decL, formL]
    simp
  | x :: xs, f, b, r, p, d, hm, hd, hd80, hl, hb, hf => by
    obtain ⟨f, rfl⟩ : ∃ g, f = g + 1 := ⟨f - 1, by omega⟩
    rw [formL] at hl hb hf ⊢
    simp only [List.length_append] at hl hf ⊢
    rw [List.append_assoc] at hb
    have hm2 : mayI x = true ∧ mayL xs = true := by rw [mayL] at hm; simpa using hm
    have hd2 : deepI x (80 - d) = false ∧ deepL xs (80 - d) = false := by rw [deepL] at hd; simpa using hd
    have hpos := form_pos x (by omega)
    have h1 := dec_formI x f b (formL xs ++ r) p (p + ((formI x).length + (formL xs).length)) d hm2.1 hd2.1 hd80 (by omega) hb (by omega) (by omega)
    have h2 := dec_formL xs f b r (p + (formI x).length) d hm2.2 hd2.2 hd80 (by omega) (drop_form hb) (by omega)
    rw [show p + (formI x).length + (formL xs).length = p + ((formI x).length + (formL xs).length) by omega] at h2
    rw [decL, if_neg (by omega), h1]
    simp only
    rw [h2]
end
end Go.Proofs.Ytdhkhdeblkbojaa
