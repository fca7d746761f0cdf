/- Plain laws of the form: heads. -/
import Derived.Test.YtdhkhdeblkbojaaRlpSize
import Derived.Test.YtdhkhdeblkbojaaRlpForm2
namespace Go.Proofs.Ytdhkhdeblkbojaa

theorem beNat_beB (n : Nat) : beNat (beB n) = n := by
  induction n using Nat.strongRecOn with
  | _ n ih =>
    by_cases h : n = 0
    · subst h; rw [beB_zero]; rfl
    · rw [beB_pos h, beNat_snoc, ih (n / 256) (by omega)]
      simp; omega
theorem beB_head (n : Nat) (h : n ≠ 0) : ((beB n).getD 0 0).toNat ≠ 0 := by
  induction n using Nat.strongRecOn with
  | _ n ih =>
    rw [beB_pos h]
    by_cases h2 : n / 256 = 0
    · rw [h2, beB_zero]
      simp; omega
    · have h3 := ih (n / 256) (by omega) h2
      cases hb : beB (n / 256) with
      | nil => rw [hb] at h3; simp at h3
      | cons a r => rw [hb] at h3; simpa using h3
theorem beB_ne (n : Nat) (h : n ≠ 0) : 1 ≤ (beB n).length := by rw [beB_pos h]; simp
theorem getD_drop (b : List UInt8) (p : Nat) : b.getD p 0 = (b.drop p).getD 0 0 := by simp [List.getD]

theorem headN_form {b r : List UInt8} {p e n : Nat} {base : UInt8} (hbase : base = 128 ∨ base = 192) (hn : n ≤ 1048576) (hb : b.drop p = headB n base ++ r) (he : p + (headB n base).length ≤ e) :
    headN b p e = .ok n (p + (headB n base).length) ∧ (if base = 192 then 192 ≤ (b.getD p 0).toNat else 128 ≤ (b.getD p 0).toNat ∧ (b.getD p 0).toNat < 192) := by
  have hk := beB_len 3 n (by omega)
  by_cases h56 : n < 56
  · have e1 : headB n base = [base + UInt8.ofNat n] := if_pos h56
    rw [e1] at hb he ⊢
    have e2 : b.getD p 0 = base + UInt8.ofNat n := by rw [getD_drop, hb]; rfl
    unfold headN
    rw [e2]
    rcases hbase with rfl | rfl
    · have e3 : ((128 : UInt8) + UInt8.ofNat n).toNat = 128 + n := by simp [UInt8.toNat_add]; omega
      rw [e3, if_pos (by omega)]
      refine ⟨by rw [show (128 + n) % 64 = n by omega]; rfl, ?_⟩
      rw [if_neg (by decide)]
      omega
    · have e3 : ((192 : UInt8) + UInt8.ofNat n).toNat = 192 + n := by simp [UInt8.toNat_add]; omega
      rw [e3, if_pos (by omega)]
      refine ⟨by rw [show (192 + n) % 64 = n by omega]; rfl, ?_⟩
      rw [if_pos rfl]
      omega
  · have e1 : headB n base = (base + 55 + UInt8.ofNat (beB n).length) :: beB n := if_neg h56
    rw [e1] at hb he ⊢
    have hk1 := beB_ne n (by omega)
    have e2 : b.getD p 0 = base + 55 + UInt8.ofNat (beB n).length := by rw [getD_drop, hb]; rfl
    have e4 : b.drop (p + 1) = beB n ++ r := by
      rw [← List.drop_drop, hb]; rfl
    have e5 : b.getD (p + 1) 0 = (beB n).getD 0 0 := by
      rw [getD_drop, e4]
      cases hx : beB n with
      | nil => rw [hx] at hk1; simp at hk1
      | cons a s => rfl
    have e6 : (b.drop (p + 1)).take (beB n).length = beB n := by rw [e4]; simp
    have key : ∀ v : Nat, v % 64 = 55 + (beB n).length → (if v % 64 < 56 then (DR.ok (v % 64) (p + 1) : DR Nat)
        else if e - (p + 1) < v % 64 - 55 then .bad p 50
        else if (b.getD (p + 1) 0).toNat = 0 then .bad p 52
        else if 1048576 < beNat ((b.drop (p + 1)).take (v % 64 - 55)) then .bad p 54
        else if beNat ((b.drop (p + 1)).take (v % 64 - 55)) < 56 then .bad p 52
        else .ok (beNat ((b.drop (p + 1)).take (v % 64 - 55))) (p + 1 + (v % 64 - 55))) = .ok n (p + ((base + 55 + UInt8.ofNat (beB n).length) :: beB n).length) := fun v hv => by
      have hv2 : v % 64 - 55 = (beB n).length := by omega
      rw [hv2, if_neg (by omega), e6, beNat_beB, e5, if_neg (by simp at he; omega), if_neg (beB_head n (by omega)), if_neg (by omega), if_neg (by omega)]
      simp; omega
    unfold headN
    rw [e2]
    rcases hbase with rfl | rfl
    · have e3 : ((128 : UInt8) + 55 + UInt8.ofNat (beB n).length).toNat = 183 + (beB n).length := by simp [UInt8.toNat_add]; omega
      rw [e3]
      refine ⟨key _ (by omega), ?_⟩
      rw [if_neg (by decide)]
      omega
    · have e3 : ((192 : UInt8) + 55 + UInt8.ofNat (beB n).length).toNat = 247 + (beB n).length := by simp [UInt8.toNat_add]; omega
      rw [e3]
      refine ⟨key _ (by omega), ?_⟩
      rw [if_pos rfl]
      omega
end Go.Proofs.Ytdhkhdeblkbojaa
