/- The document's answer for the form: Encode, Int, Number; the program's Int, Number. -/
import Derived.Test.YtdhkhdeblkbojaaRefEnc2
import Derived.Test.YtdhkhdeblkbojaaRlpLaw6
set_option linter.unusedSimpArgs false
namespace Go.Proofs.Ytdhkhdeblkbojaa
open Go.RowKit
attribute [local go_sem ↓] Go.wp_at_zero Go.wp_at_succ
attribute [local go_sem] size_gr cell_gr frozen_gr setCell_gr gr_drew gr_drewN lt_k lt_kc le_k le_kc sub_kc

mutual
theorem deepR_iff : ∀ (x : It) (n : Nat), n ≤ 80 → (80 < deepR x n ↔ deepI x (80 - n) = true)
  | .mk l b xs, n, hn => by
    rw [deepR, deepI]
    cases l with
    | false => simp; omega
    | true =>
      rw [if_neg (by simp; omega)]
      by_cases h : n = 80
      · subst h
        have := deepRL_ge xs 81 81
        simp; omega
      · rw [deepRL_iff xs (n + 1) (n + 1) (by omega), show 80 - (n + 1) = 80 - n - 1 by omega]
        have h1 : ¬ 80 < n + 1 := by omega
        have h2 : (80 - n == 0) = false := beq_eq_false_iff_ne.2 (by omega)
        simp [h1, h2]
theorem deepRL_iff : ∀ (xs : List It) (n m : Nat), n ≤ 80 → (80 < deepRL xs n m ↔ 80 < m ∨ deepL xs (80 - n) = true)
  | [], n, m, _ => by rw [deepRL, deepL]; simp
  | x :: r, n, m, hn => by
    rw [deepRL, deepL, deepRL_iff r n _ hn]
    have := deepR_iff x n hn
    have hmx : 80 < max m (deepR x n) ↔ 80 < m ∨ 80 < deepR x n := by omega
    rw [hmx, this, Bool.or_eq_true, or_assoc]
theorem deepRL_ge : ∀ (xs : List It) (n m : Nat), m ≤ deepRL xs n m
  | [], n, m => by rw [deepRL]; exact Nat.le_refl _
  | x :: r, n, m => by
    rw [deepRL]
    have := deepRL_ge r n (max m (deepR x n))
    omega
end
theorem encR_cases {x : It} (hw : wtI x ≤ 1099511627776) : (80 < deepR x 0 → encR x = ([], 53)) ∧ (¬ 80 < deepR x 0 → mayI x = false → encR x = ([], 52)) ∧ (¬ 80 < deepR x 0 → mayI x = true → 1048576 < (formI x).length → encR x = ([], 54)) ∧ (¬ 80 < deepR x 0 → mayI x = true → ¬ 1048576 < (formI x).length → encR x = (formI x, 0)) := by
  have hd := deepR_iff x 0 (by omega)
  simp only [Nat.sub_zero] at hd
  refine ⟨fun h => by rw [encR, if_pos (hd.1 h)], fun h hm => ?_, fun h hm hl => ?_, fun h hm hl => ?_⟩
  · rw [encR, if_neg (fun e => h (hd.2 e)), if_pos hm]
  · rw [encR, if_neg (fun e => h (hd.2 e)), if_neg (by rw [hm]; decide), if_pos ?_]
    apply Decidable.byContradiction
    intro hs
    have := form_size x hw (by omega)
    omega
  · have := size_form x (by omega)
    rw [encR, if_neg (fun e => h (hd.2 e)), if_neg (by rw [hm]; decide), if_neg (by omega)]

set_option maxRecDepth 100000 in
set_option maxHeartbeats 2000000 in
theorem rencode_any {w : World} {T : Nat → Prop} {v0 v1 v2 : Value} {x : It} {sv : List Value} {f : List UInt8} {c : Int} (hE : encR x = (f, c)) (h : RdI w T v0 v1 v2 x sv) (hwt : wtI x ≤ 1099511627776) :
    Calls Try.prog 34 #[.agg #[v0, v1, v2]] w fun e w' => ∃ v, e = .returned (.tuple #[v, .int .i64 c]) ∧ OwnB w' w.heap.size v f ∧ Below w.heap.size w w' := by
  obtain ⟨l1, A1, n1, c1, A2, n2, c2, rfl, rfl, rfl⟩ := h.form
  obtain ⟨k1, k2, k3, k4⟩ := encR_cases hwt
  rw [hE] at k1 k2 k3 k4
  have K1 := Lib.hid k1
  have K2 := Lib.hid k2
  have K3 := Lib.hid k3
  have K4 := Lib.hid k4
  have HI := Lib.hid h
  have hfl := formI_le x hwt
  clear h hE k1 k2 k3 k4
  go_enter Try.func34, Try.ntmps34
  go_wp2_with fail
  refine (rdeep_any HI.out _ 0 (by (repeat (first | exact Below.refl _ _ | refine bg_al ?_ | refine bg_gr ?_ | refine bg_drn ?_ | refine bg_dr ?_ | assumption))) (by omega)).mono ?_
  rintro en w1 ⟨rfl, hb⟩; obtain ⟨D1, rfl⟩ := gr_of_below hb; clear hb
  by_cases hd : 80 < deepR x 0
  · have hd' : (80 : Int) < (deepR x 0 : Int) := by omega
    have e := K1.out hd
    injection e with e1 e2
    subst e1 e2
    go_wp2_with fail
    go_ret2
    exact ⟨_, rfl, OwnB.nil _ _, by (repeat (first | exact Below.refl _ _ | refine bg_al ?_ | refine bg_gr ?_ | refine bg_drn ?_ | refine bg_dr ?_ | assumption))⟩
  · have hd' : ¬ (80 : Int) < (deepR x 0 : Int) := by omega
    go_wp2_with fail
    refine (rmay_any HI.out _ (by (repeat (first | exact Below.refl _ _ | refine bg_al ?_ | refine bg_gr ?_ | refine bg_drn ?_ | refine bg_dr ?_ | assumption)))).mono ?_
    rintro en w1 ⟨rfl, hb⟩; obtain ⟨D2, rfl⟩ := gr_of_below hb; clear hb
    cases hm : mayI x with
    | false =>
      have e := K2.out hd hm
      injection e with e1 e2
      subst e1 e2
      clear hm
      go_wp2_with fail
      go_ret2
      exact ⟨_, rfl, OwnB.nil _ _, by (repeat (first | exact Below.refl _ _ | refine bg_al ?_ | refine bg_gr ?_ | refine bg_drn ?_ | refine bg_dr ?_ | assumption))⟩
    | true =>
      have HM := Lib.hid hm
      clear hm
      go_wp2_with fail
      refine (rform_any HI.out _ (by (repeat (first | exact Below.refl _ _ | refine bg_al ?_ | refine bg_gr ?_ | refine bg_drn ?_ | refine bg_dr ?_ | assumption))) hwt).mono ?_
      rintro en w1 ⟨v, rfl, ho, hb⟩; obtain ⟨D3, rfl⟩ := gr_of_below hb; clear hb
      obtain ⟨A3, c3, rfl, -⟩ := ho.form
      have HO := Lib.hid ho
      clear ho
      by_cases hl : 1048576 < (formI x).length
      · have hl' : (1048576 : Int) < ((formI x).length : Int) := by omega
        have e := K3.out hd HM.out hl
        injection e with e1 e2
        subst e1 e2
        go_wp2_with fail
        go_ret2
        exact ⟨_, rfl, OwnB.nil _ _, by (repeat (first | exact Below.refl _ _ | refine bg_al ?_ | refine bg_gr ?_ | refine bg_drn ?_ | refine bg_dr ?_ | assumption))⟩
      · have hl' : ¬ (1048576 : Int) < ((formI x).length : Int) := by omega
        have e := K4.out hd HM.out hl
        injection e with e1 e2
        subst e1 e2
        go_wp2_with fail
        go_ret2
        exact ⟨_, rfl, HO.out.mono (by simp only [World.size_alloc, size_gr]; omega), by (repeat (first | exact Below.refl _ _ | refine bg_al ?_ | refine bg_gr ?_ | refine bg_drn ?_ | refine bg_dr ?_ | assumption))⟩
end Go.Proofs.Ytdhkhdeblkbojaa
