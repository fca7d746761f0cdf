/- Plain laws of the form: sizes; Encode then Decode. -/
import Derived.Test.YtdhkhdeblkbojaaRlpLaw2
namespace Go.Proofs.Ytdhkhdeblkbojaa

mutual
theorem size_form : ∀ x : It, (formI x).length ≤ 1048576 → sizeI x = (formI x).length
  | .mk l b xs, h => by
    rw [formI] at h ⊢
    rw [sizeI]
    cases l with
    | true =>
      simp only [if_true] at h ⊢
      have := sizeL_form xs 0 (by simp at h; omega)
      rw [this]
      simp; omega
    | false =>
      simp only [Bool.false_eq_true, if_false] at h ⊢
      by_cases hs : b.length = 1 ∧ (b.getD 0 0).toNat < 128
      · rw [if_pos hs] at h ⊢
        rw [if_pos hs]; exact hs.1.symm
      · rw [if_neg hs] at h ⊢
        rw [if_neg hs]
        simp; omega
theorem sizeL_form : ∀ (xs : List It) (n : Nat), n + (formL xs).length ≤ 1048576 → sizeL xs n = n + (formL xs).length + (headB (n + (formL xs).length) 192).length
  | [], n, h => by rw [sizeL, formL]; simp
  | x :: r, n, h => by
    rw [formL] at h ⊢
    simp only [List.length_append] at h ⊢
    have h1 := size_form x (by omega)
    have h2 := sizeL_form r (n + (formI x).length) (by omega)
    rw [sizeL, h1, if_neg (by omega), h2]
    rw [show n + (formI x).length + (formL r).length = n + ((formI x).length + (formL r).length) by omega]
end
mutual
theorem form_size : ∀ x : It, wtI x ≤ 1099511627776 → sizeI x ≤ 1048576 → (formI x).length ≤ 1048576
  | .mk l b xs, hw, h => by
    rw [formI]
    rw [sizeI] at h
    rw [wtI] at hw
    cases l with
    | true =>
      simp only [if_true] at h ⊢
      have h1 := formL_size xs 0 (by omega) h
      have h2 := sizeL_form xs 0 (by omega)
      rw [h2] at h
      simp at h ⊢; omega
    | false =>
      simp only [Bool.false_eq_true, if_false] at h ⊢
      by_cases hs : b.length = 1 ∧ (b.getD 0 0).toNat < 128
      · rw [if_pos hs] at h ⊢
        omega
      · rw [if_neg hs] at h ⊢
        simp; omega
theorem formL_size : ∀ (xs : List It) (n : Nat), n + wtL xs ≤ 1099511627776 → sizeL xs n ≤ 1048576 → n + (formL xs).length ≤ 1048576
  | [], n, hw, h => by
    rw [sizeL] at h
    rw [formL]
    simp; omega
  | x :: r, n, hw, h => by
    rw [sizeL] at h
    rw [wtL] at hw
    split at h
    · omega
    · rename_i hn
      have h1 := form_size x (by omega) (by omega)
      have h2 := size_form x h1
      have h3 := sizeI_le x (by omega)
      have h4 := formL_size r (n + sizeI x) (by omega) h
      rw [formL]
      simp; omega
end

theorem encR_ok {x : It} {f : List UInt8} (h : encR x = (f, 0)) : deepI x 80 = false ∧ mayI x = true ∧ sizeI x ≤ 1048576 ∧ f = formI x := by
  unfold encR at h
  split at h
  · simp at h
  · rename_i h1
    split at h
    · simp at h
    · rename_i h2
      split at h
      · simp at h
      · rename_i h3
        simp at h
        exact ⟨by simpa using h1, by simpa using h2, by omega, h.symm⟩
theorem encR_code (x : It) : (encR x).2 = 0 ∨ (encR x).2 = 52 ∨ (encR x).2 = 53 ∨ (encR x).2 = 54 := by
  unfold encR
  repeat' split
  all_goals simp
theorem encR_bad {x : It} (h : (encR x).2 ≠ 0) : (encR x).1 = [] := by
  unfold encR at h ⊢
  repeat' split
  all_goals simp_all
/-- what is written is read -/
theorem dec_enc {x : It} {f : List UInt8} (hw : wtI x ≤ 1099511627776) (h : encR x = (f, 0)) : decR f = .ok x f.length ∧ f.length ≤ 1048576 ∧ 1 ≤ f.length := by
  obtain ⟨h1, h2, h3, rfl⟩ := encR_ok h
  have h4 := form_size x hw h3
  have h5 := form_pos x h4
  have h6 := dec_formI x (2 * (formI x).length + 1) (formI x) [] 0 (formI x).length 0 h2 h1 (by omega) h4 (by simp) (by omega) (by omega)
  refine ⟨?_, h4, h5⟩
  rw [decR, readR, if_neg (by omega), h6]
  simp
end Go.Proofs.Ytdhkhdeblkbojaa
