/- Plain laws of the form: weights of what is read. -/
import Derived.Test.YtdhkhdeblkbojaaRlpLaw4
namespace Go.Proofs.Ytdhkhdeblkbojaa

mutual
theorem wt_form : ∀ x : It, mayI x = true → (formI x).length ≤ 1048576 → wtI x ≤ 17 * (formI x).length
  | .mk true b xs, hm, h => by
    have e1 : formI (.mk true b xs) = headB (formL xs).length 192 ++ formL xs := by rw [formI]; rfl
    rw [e1] at h ⊢
    rw [mayI] at hm
    simp at hm
    obtain ⟨h1, rfl⟩ := hm
    simp only [List.length_append] at h ⊢
    have h2 := wtL_form xs h1 (by omega)
    have h3 := headB_len (n := (formL xs).length) (by omega) 192
    rw [wtI]
    simp; omega
  | .mk false b xs, hm, h => by
    rw [mayI] at hm
    simp at hm
    subst hm
    rw [formI] at h ⊢
    simp only [Bool.false_eq_true, if_false] at h ⊢
    rw [wtI, wtL]
    split
    · rename_i hs; omega
    · rename_i hs
      rw [if_neg hs] at h
      have h3 := headB_len (n := b.length) (by simp at h; omega) 128
      simp; omega
theorem wtL_form : ∀ xs : List It, mayL xs = true → (formL xs).length ≤ 1048576 → wtL xs ≤ 17 * (formL xs).length
  | [], hm, h => by rw [wtL]; omega
  | x :: r, hm, h => by
    rw [formL] at h ⊢
    rw [mayL] at hm
    simp at hm
    simp only [List.length_append] at h ⊢
    have h1 := wt_form x hm.1 (by omega)
    have h2 := wtL_form r hm.2 (by omega)
    rw [wtL]; omega
end
theorem wt_dec {b : List UInt8} {x : It} {n : Nat} (h : decR b = .ok x n) : wtI x ≤ 17825792 ∧ b.length ≤ 1048576 := by
  have he := enc_dec h
  obtain ⟨h1, h2, h3, h4⟩ := encR_ok he
  have hb : b.length ≤ 1048576 := by
    unfold decR at h
    cases hr : readR b with
    | bad p c => rw [hr] at h; cases h
    | ok y q => exact (readR_ok hr).2.2
  have := wt_form x h2 (by rw [← h4]; exact hb)
  rw [← h4] at this
  omega
theorem decR_bad {b : List UInt8} {p : Nat} {c : Int} (h : decR b = .bad p c) : p ≤ b.length ∧ 50 ≤ c ∧ c ≤ 54 := by
  unfold decR at h
  cases hr : readR b with
  | bad p' c' =>
    rw [hr] at h
    cases h
    exact readR_bad hr
  | ok y q =>
    rw [hr] at h
    simp only at h
    split at h
    · cases h; exact ⟨by omega, by decide, by decide⟩
    · cases h
end Go.Proofs.Ytdhkhdeblkbojaa
