/- Plain laws of the form: what is read is written. -/
import Derived.Test.YtdhkhdeblkbojaaRlpLaw3
namespace Go.Proofs.Ytdhkhdeblkbojaa

theorem beB_beNat (k : Nat) : ∀ ds : List UInt8, ds.length = k → (ds = [] ∨ (ds.getD 0 0).toNat ≠ 0) → beB (beNat ds) = ds := by
  induction k with
  | zero =>
    intro ds hl _
    have : ds = [] := List.eq_nil_of_length_eq_zero hl
    subst this; exact beB_zero
  | succ k ih =>
    intro ds hl h0
    have hne : ds ≠ [] := fun e => by rw [e] at hl; cases hl
    have hsp := List.dropLast_concat_getLast hne
    generalize hc : ds.getLast hne = c at hsp
    generalize hi : ds.dropLast = i at hsp
    subst hsp
    have hil : i.length = k := by simpa using hl
    have h1 := c.toNat_lt
    rw [beNat_snoc]
    have hnz : i = [] ∨ (i.getD 0 0).toNat ≠ 0 := by
      cases i with
      | nil => exact .inl rfl
      | cons a r => right; simpa using h0
    have hpos : beNat i * 256 + c.toNat ≠ 0 := by
      cases i with
      | nil =>
        have : c.toNat ≠ 0 := by simpa using h0
        omega
      | cons a r =>
        intro e
        have e2 : beNat (a :: r) = 0 := by omega
        have e3 := ih (a :: r) hil hnz
        rw [e2, beB_zero] at e3
        cases e3
    rw [beB_pos hpos, show (beNat i * 256 + c.toNat) / 256 = beNat i by omega, ih i hil hnz]
    congr 2
    apply UInt8.toNat_inj.1
    simp

theorem headN_back {b : List UInt8} {p e n q : Nat} (h : headN b p e = .ok n q) (hp : p < e) (he : e ≤ b.length) (hv : 128 ≤ (b.getD p 0).toNat) :
    b.drop p = headB n (if 192 ≤ (b.getD p 0).toNat then 192 else 128) ++ b.drop q ∧ q = p + (headB n (if 192 ≤ (b.getD p 0).toNat then 192 else 128)).length ∧ n ≤ 1048576 := by
  have hvl := (b.getD p 0).toNat_lt
  have hcons : b.drop p = b.getD p 0 :: b.drop (p + 1) := by
    rw [List.drop_eq_getElem_cons (by omega), getD_at (by omega)]
  unfold headN at h
  split at h
  · rename_i h1
    cases h
    have e1 : headB ((b.getD p 0).toNat % 64) (if 192 ≤ (b.getD p 0).toNat then 192 else 128) = [b.getD p 0] := by
      rw [headB, if_pos h1]
      congr 1
      apply UInt8.toNat_inj.1
      split
      · rename_i h2
        have : ((192 : UInt8) + UInt8.ofNat ((b.getD p 0).toNat % 64)).toNat = (192 + (b.getD p 0).toNat % 64) % 256 := by simp [UInt8.toNat_add]
        rw [this]; omega
      · rename_i h2
        have : ((128 : UInt8) + UInt8.ofNat ((b.getD p 0).toNat % 64)).toNat = (128 + (b.getD p 0).toNat % 64) % 256 := by simp [UInt8.toNat_add]
        rw [this]; omega
    rw [e1]
    exact ⟨hcons, rfl, by omega⟩
  · split at h
    · cases h
    · split at h
      · cases h
      · split at h
        · cases h
        · split at h
          · cases h
          · rename_i h1 h2 h3 h4 h5
            generalize hk : (b.getD p 0).toNat % 64 - 55 = k at h h2 h4 h5
            have hkv : (b.getD p 0).toNat % 64 = 55 + k := by omega
            generalize hds : (b.drop (p + 1)).take k = ds at h h4 h5
            injection h with h6 h7
            have hdl : ds.length = k := by rw [← hds]; simp; omega
            have hd0 : ds.getD 0 0 = b.getD (p + 1) 0 := by
              rw [getD_drop b (p + 1), ← hds]
              cases hx : b.drop (p + 1) with
              | nil => simp
              | cons a r =>
                have hk1 : 1 ≤ k := by omega
                obtain ⟨k', rfl⟩ : ∃ k', k = k' + 1 := ⟨k - 1, by omega⟩
                simp
            have hbe := beB_beNat k ds hdl (.inr (by rw [hd0]; exact h3))
            rw [h6] at hbe h4 h5
            have e1 : headB n (if 192 ≤ (b.getD p 0).toNat then 192 else 128) = b.getD p 0 :: ds := by
              rw [headB, if_neg h5, hbe, hdl]
              congr 1
              apply UInt8.toNat_inj.1
              split
              · have : ((192 : UInt8) + 55 + UInt8.ofNat k).toNat = (247 + k) % 256 := by simp [UInt8.toNat_add]; try omega
                rw [this]; omega
              · have : ((128 : UInt8) + 55 + UInt8.ofNat k).toNat = (183 + k) % 256 := by simp [UInt8.toNat_add]; try omega
                rw [this]; omega
            rw [e1]
            refine ⟨?_, by simp; omega, by omega⟩
            have e2 : b.drop (p + 1 + k) = (b.drop (p + 1)).drop k := by rw [List.drop_drop]
            rw [hcons, ← hds, ← h7, List.cons_append, e2]
            congr 1
            exact (List.take_append_drop k _).symm

theorem dec_back (f : Nat) : (∀ b p e d x q, p ≤ e → e ≤ b.length → d ≤ 80 → decI f b p e d = .ok x q → b.drop p = formI x ++ b.drop q ∧ q = p + (formI x).length ∧ mayI x = true ∧ deepI x (80 - d) = false) ∧
    (∀ b p e d xs q, p ≤ e → e ≤ b.length → d ≤ 80 → decL f b p e d = .ok xs q → b.drop p = formL xs ++ b.drop q ∧ q = p + (formL xs).length ∧ mayL xs = true ∧ deepL xs (80 - d) = false) := by
  induction f with
  | zero => exact ⟨fun b p e d x q _ _ _ h => by simp [decI] at h, fun b p e d xs q _ _ _ h => by simp [decL] at h⟩
  | succ f ih =>
    refine ⟨fun b p e d x q hp he hd h => ?_, fun b p e d xs q hp he hd h => ?_⟩
    · rw [decI] at h
      split at h
      · cases h
      · rename_i hne
        have hcons : b.drop p = b.getD p 0 :: b.drop (p + 1) := by
          rw [List.drop_eq_getElem_cons (by omega), getD_at (by omega)]
        split at h
        · rename_i hlow
          cases h
          have e1 : formI (.mk false [b.getD p 0] []) = [b.getD p 0] := by rw [formI]; simp only [Bool.false_eq_true, if_false]; rw [if_pos ⟨rfl, hlow⟩]
          rw [e1]
          exact ⟨hcons, rfl, by simp [mayI], by simp [deepI]⟩
        · rename_i hlow
          split at h
          · cases h
          · rename_i hdeep
            split at h
            · cases h
            · rename_i n t1 hh
              obtain ⟨k1, k2, k3⟩ := headN_back hh (by omega) he (by omega)
              obtain ⟨m1, m2, m3⟩ := headN_to hh (by omega)
              split at h
              · cases h
              · rename_i hroom
                split at h
                · rename_i hlist
                  rw [if_pos hlist] at k1 k2
                  split at h
                  · cases h
                  · rename_i xs t2 hl
                    cases h
                    obtain ⟨j1, j2, j3, j4⟩ := ih.2 b t1 (t1 + n) (d + 1) xs q (by omega) (by omega) (by omega) hl
                    have hq := (dec_to f).2 b t1 (t1 + n) (d + 1) xs q (by omega) hl
                    have hn : (formL xs).length = n := by omega
                    have e1 : formI (.mk true [] xs) = headB n 192 ++ formL xs := by rw [formI, hn]; rfl
                    rw [e1]
                    refine ⟨by rw [k1, j1, List.append_assoc], by simp; omega, by simp [mayI, j3], ?_⟩
                    rw [deepI]
                    simp
                    exact ⟨by omega, by rw [show 80 - d - 1 = 80 - (d + 1) by omega]; exact j4⟩
                · rename_i hlist
                  rw [if_neg hlist] at k1 k2
                  split at h
                  · cases h
                  · rename_i hone
                    cases h
                    have hlen : ((b.drop t1).take n).length = n := by simp; omega
                    have hg : n = 1 → ((b.drop t1).take n).getD 0 0 = b.getD t1 0 := fun e => by
                      subst e
                      rw [getD_drop b t1]
                      cases b.drop t1 with
                      | nil => rfl
                      | cons a r => rfl
                    have e1 : formI (.mk false ((b.drop t1).take n) []) = headB n 128 ++ (b.drop t1).take n := by
                      rw [formI]; simp only [Bool.false_eq_true, if_false]
                      rw [hlen, if_neg (fun hx => hone ⟨hx.1, by rw [← hg hx.1]; exact hx.2⟩)]
                    have e2 : b.drop (t1 + n) = (b.drop t1).drop n := by rw [List.drop_drop]
                    rw [e1]
                    refine ⟨by rw [k1, e2, List.append_assoc, List.take_append_drop], by rw [List.length_append, hlen]; omega, by simp [mayI], by simp [deepI]⟩
    · rw [decL] at h
      split at h
      · cases h
        simp [formL, mayL, deepL]
      · split at h
        · cases h
        · rename_i x t1 hi
          obtain ⟨j1, j2, j3, j4⟩ := ih.1 b p e d x t1 hp he hd hi
          have h1 := (dec_to f).1 b p e d x t1 hp hi
          split at h
          · cases h
          · rename_i xs2 t2 hl
            obtain ⟨i1, i2, i3, i4⟩ := ih.2 b t1 e d xs2 t2 (by omega) he hd hl
            cases h
            rw [formL]
            exact ⟨by rw [j1, i1, List.append_assoc], by simp; omega, by simp [mayL, j3, i3], by simp [deepL, j4, i4]⟩

/-- what is read whole is what is written -/
theorem enc_dec {b : List UInt8} {x : It} {n : Nat} (h : decR b = .ok x n) : encR x = (b, 0) := by
  unfold decR at h
  cases hr : readR b with
  | bad p c => rw [hr] at h; cases h
  | ok y q =>
    rw [hr] at h
    simp only at h
    split at h
    · cases h
    · rename_i hq
      injection h with h1 h2
      subst h1
      obtain ⟨q0, q1, q2⟩ := readR_ok hr
      have hqb : q = b.length := by omega
      subst hqb
      unfold readR at hr
      rw [if_neg (by omega)] at hr
      obtain ⟨k1, k2, k3, k4⟩ := (dec_back _).1 b 0 b.length 0 y b.length (Nat.zero_le _) (Nat.le_refl _) (by omega) hr
      have hf : formI y = b := by simpa using k1.symm
      have hs := size_form y (by omega)
      unfold encR
      rw [if_neg (by rw [show (80 : Nat) = 80 - 0 by rfl, k4]; simp), if_neg (by rw [k3]; simp), if_neg (by omega), hf]
end Go.Proofs.Ytdhkhdeblkbojaa
