/- Walks of cairnref01: Common, Compare, Same, Nibbles, Bytes. -/
import Derived.Test.YtcbglojjbgenlaaLib
import Derived.Test.YtcbglojjbgenlaaRows
namespace Go.Proofs.Ytcbglojjbgenlaa
open Go.RowKit

def common : List UInt8 → List UInt8 → Nat
  | a :: r, b :: s => if a = b then common r s + 1 else 0
  | _, _ => 0

theorem common_at (la lb : List UInt8) (k : Nat) (h : la.take k = lb.take k) (hk : k ≤ la.length) (hk' : k ≤ lb.length) (he : ∀ h1 : k < la.length, ∀ h2 : k < lb.length, la[k] ≠ lb[k]) : common la lb = k := by
  induction la generalizing lb k with
  | nil => simp at hk; subst hk; simp [common]
  | cons a r ih =>
    cases lb with
    | nil => simp at hk'; subst hk'; simp [common]
    | cons b s =>
      cases k with
      | zero => have := he (by simp) (by simp); simp at this; simp [common, this]
      | succ k =>
        simp at h
        simp only [common, h.1, if_true]
        rw [ih s k h.2 (by simpa using hk) (by simpa using hk') (fun h1 h2 => by have := he (by simpa using h1) (by simpa using h2); simpa using this)]
theorem common_le (la lb : List UInt8) : common la lb ≤ la.length ∧ common la lb ≤ lb.length := by
  induction la generalizing lb with
  | nil => simp [common]
  | cons a r ih =>
    cases lb with
    | nil => simp [common]
    | cons b s =>
      simp only [common]
      have := ih s
      split <;> simp <;> omega
theorem common_ne (la lb : List UInt8) : ∀ (h1 : common la lb < la.length) (h2 : common la lb < lb.length), la[common la lb] ≠ lb[common la lb] := by
  induction la generalizing lb with
  | nil => intro h1; simp at h1
  | cons a r ih =>
    cases lb with
    | nil => intro _ h2; simp at h2
    | cons b s =>
      intro h1 h2
      by_cases h : a = b
      · simp only [common, h, if_true] at h1 h2 ⊢
        simpa using ih s (by simpa using h1) (by simpa using h2)
      · simp only [common, h, if_false]
        simpa using h
theorem common_self (l : List UInt8) : common l l = l.length := by
  induction l with
  | nil => rfl
  | cons a r ih => simp [common, ih]
theorem common_eq (la lb : List UInt8) (h1 : common la lb = la.length) (h2 : common la lb = lb.length) : la = lb := by
  induction la generalizing lb with
  | nil => cases lb with | nil => rfl | cons b s => simp [common] at h2
  | cons a r ih =>
    cases lb with
    | nil => simp [common] at h1
    | cons b s =>
      by_cases h : a = b
      · simp [common, h] at h1 h2
        rw [h, ih s h1 h2]
      · simp [common, h] at h1

set_option maxHeartbeats 400000 in
theorem common_any (va vb : Value) (la lb : List UInt8) (w : World) (ha : SB w va la) (hb : SB w vb lb) :
    Calls Try.prog 48 #[va, vb] w fun e w' => e = .returned (.int .i64 (common la lb)) ∧ ∃ n, w' = w.drewN n := by
  obtain ⟨A, ca, rfl, ha, na, ma, -⟩ := ha
  obtain ⟨B, cb, rfl, hb, nb, mb, -⟩ := hb
  unfold maxLen at ma mb
  go_enter Try.func48, Try.ntmps48
  go_wp2
  go_loopw [5] (fun i wr => ∃ k : Nat, k ≤ la.length ∧ k ≤ lb.length ∧ la.take k = lb.take k ∧ i = .int .i64 k ∧ ∃ n, wr = w.drewN n) (fun i _ => la.length - (intOf i).toNat)
  case atStart => exact ⟨0, by omega, by omega, by simp, rfl, 0, rfl⟩
  case round =>
    obtain ⟨k, hka, hkb, htk, rfl, n, rfl⟩ := hrel
    have HT := Lib.hid htk
    clear htk
    by_cases h1 : k < la.length
    · by_cases h2 : k < lb.length
      · obtain ⟨b1, o1, rfl, c1⟩ := ha k h1
        obtain ⟨b2, o2, rfl, c2⟩ := hb k h2
        by_cases h3 : la[k] = lb[k]
        · have H3 := Lib.hid h3
          rw [← h3] at c2
          clear h3
          go_wp2_with fail; go_quiet (fail)
          go_wp2
          go_roundw
          case rel => exact ⟨k + 1, by omega, by omega, by rw [List.take_succ_eq_append_getElem h1, List.take_succ_eq_append_getElem h2, HT.out, H3.out], by go_num, _, rfl⟩
          case measure => simp [intOf]; omega
        · have h4 : (((la[k].toNat : Nat) : Int) == ((lb[k].toNat : Nat) : Int)) = false := by simp; intro h; exact h3 (UInt8.toNat_inj.1 (by omega))
          go_wp2_with fail; go_quiet (fail)
          go_wp2
          go_ret
          exact ⟨by rw [common_at la lb k HT.out hka hkb (fun _ _ => h3)]; rfl, dq _ _ _⟩
      · have h4 : decide (k < lb.length) = false := by simpa using h2
        go_wp2_with fail; go_quiet (fail)
        go_wp2
        go_ret
        exact ⟨by rw [common_at la lb k HT.out hka hkb (fun _ h => by omega)]; rfl, dq _ _ _⟩
    · have h4 : decide (k < la.length) = false := by simpa using h1
      go_wp2_with fail; go_quiet (fail)
      go_wp2
      go_ret
      exact ⟨by rw [common_at la lb k HT.out hka hkb (fun h => by omega)]; rfl, dq _ _ _⟩

/-- the order of two strings, as Compare has it -/
def cmpB (la lb : List UInt8) : Int :=
  if common la lb = la.length ∧ common la lb = lb.length then 0
  else if common la lb = la.length then -1
  else if common la lb = lb.length then 1
  else if (la.getD (common la lb) 0).toNat < (lb.getD (common la lb) 0).toNat then -1 else 1
theorem cmpB_is (la lb : List UInt8) : cmpB la lb = if common la lb = la.length ∧ common la lb = lb.length then 0
  else if common la lb = la.length then -1
  else if common la lb = lb.length then 1
  else if (la.getD (common la lb) 0).toNat < (lb.getD (common la lb) 0).toNat then -1 else 1 := rfl
theorem cmpB_zero (la lb : List UInt8) : cmpB la lb = 0 ↔ la = lb := by
  unfold cmpB
  constructor
  · intro h
    split at h
    · rename_i h'; exact common_eq la lb h'.1 h'.2
    · split at h
      · simp at h
      · split at h
        · simp at h
        · split at h <;> simp at h
  · rintro rfl
    simp [common_self]

set_option maxHeartbeats 400000 in
theorem compare_any (va vb : Value) (la lb : List UInt8) (w : World) (ha : SB w va la) (hb : SB w vb lb) :
    Calls Try.prog 41 #[va, vb] w fun e w' => e = .returned (.int .i64 (cmpB la lb)) ∧ ∃ n, w' = w.drewN n := by
  have sa := ha
  have sb := hb
  obtain ⟨A, ca, rfl, ha, na, ma, -⟩ := ha
  obtain ⟨B, cb, rfl, hb, nb, mb, -⟩ := hb
  unfold maxLen at ma mb
  obtain ⟨l1, l2⟩ := common_le la lb
  have hne := common_ne la lb
  have hcmp := Lib.hid (cmpB_is la lb)
  have hcommon := common_any _ _ la lb w sa sb
  generalize common la lb = c at *
  have HC := Lib.hid hcommon
  clear hcommon
  by_cases e1 : c = la.length
  · have b1 : ((c : Int) == (la.length : Int)) = true := by simp; omega
    have H1 := Lib.hid e1
    by_cases e2 : c = lb.length
    · have b2 : ((c : Int) == (lb.length : Int)) = true := by simp; omega
      have hfin := Lib.hid ((hcmp.out).trans (if_pos ⟨e1, e2⟩))
      clear e1 e2 hne
      go_enter Try.func41, Try.ntmps41
      go_wp2_with (go_at_call 48; refine HC.out.mono ?_; rintro e w' ⟨rfl, n, rfl⟩)
      go_ret
      exact ⟨by rw [hfin.out]; rfl, _, rfl⟩
    · have b2 : ((c : Int) == (lb.length : Int)) = false := by simp; omega
      have hfin := Lib.hid ((hcmp.out).trans ((if_neg (fun h => e2 h.2)).trans (if_pos e1)))
      clear e1 e2 hne
      go_enter Try.func41, Try.ntmps41
      go_wp2_with (go_at_call 48; refine HC.out.mono ?_; rintro e w' ⟨rfl, n, rfl⟩)
      go_ret
      exact ⟨by rw [hfin.out]; rfl, _, rfl⟩
  · have b1 : ((c : Int) == (la.length : Int)) = false := by simp; omega
    by_cases e2 : c = lb.length
    · have b2 : ((c : Int) == (lb.length : Int)) = true := by simp; omega
      have hfin := Lib.hid ((hcmp.out).trans ((if_neg (fun h => e1 h.1)).trans ((if_neg e1).trans (if_pos e2))))
      clear e1 e2 hne
      go_enter Try.func41, Try.ntmps41
      go_wp2_with (go_at_call 48; refine HC.out.mono ?_; rintro e w' ⟨rfl, n, rfl⟩)
      go_ret
      exact ⟨by rw [hfin.out]; rfl, _, rfl⟩
    · have b2 : ((c : Int) == (lb.length : Int)) = false := by simp; omega
      have h1 : c < la.length := by omega
      have h2 : c < lb.length := by omega
      obtain ⟨bl1, o1, rfl, c1⟩ := ha c h1
      obtain ⟨bl2, o2, rfl, c2⟩ := hb c h2
      have hfin := Lib.hid ((hcmp.out).trans ((if_neg (fun h => e1 h.1)).trans ((if_neg e1).trans (if_neg e2))))
      clear e1 e2 hne
      have g1 : la.getD c 0 = la[c] := by simp [List.getD, h1]
      have g2 : lb.getD c 0 = lb[c] := by simp [List.getD, h2]
      rw [g1, g2] at hfin
      clear g1 g2
      by_cases h3 : la[c].toNat < lb[c].toNat
      · have h3' : (la[c].toNat : Int) < (lb[c].toNat : Int) := by omega
        go_enter Try.func41, Try.ntmps41
        go_wp2_with (go_at_call 48; refine HC.out.mono ?_; rintro e w' ⟨rfl, n, rfl⟩)
        go_quiet (fail)
        go_wp2
        go_ret
        exact ⟨by rw [hfin.out, if_pos h3]; rfl, dq _ _ _⟩
      · have h3' : ¬ (la[c].toNat : Int) < (lb[c].toNat : Int) := by omega
        go_enter Try.func41, Try.ntmps41
        go_wp2_with (go_at_call 48; refine HC.out.mono ?_; rintro e w' ⟨rfl, n, rfl⟩)
        go_quiet (fail)
        go_wp2
        go_ret
        exact ⟨by rw [hfin.out, if_neg h3]; rfl, dq _ _ _⟩

theorem same_any (va vb : Value) (la lb : List UInt8) (w : World) (ha : SB w va la) (hb : SB w vb lb) :
    Calls Try.prog 28 #[va, vb] w fun e w' => e = .returned (.bool (la == lb)) ∧ ∃ n, w' = w.drewN n := by
  have HC := Lib.hid (compare_any va vb la lb w ha hb)
  have hz := Lib.hid (cmpB_zero la lb)
  generalize cmpB la lb = c at *
  go_enter Try.func28, Try.ntmps28
  go_wp2_with (go_at_call 41; refine HC.out.mono ?_; rintro e w' ⟨rfl, n, rfl⟩)
  go_ret
  refine ⟨ret_bool ?_, n, rfl⟩
  rw [Bool.eq_iff_iff]
  simp [hz.out]
end Go.Proofs.Ytcbglojjbgenlaa
