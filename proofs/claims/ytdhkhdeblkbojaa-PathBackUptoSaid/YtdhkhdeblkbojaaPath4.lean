/- The walk of cairnref06.Unpack. -/
import Derived.Test.YtdhkhdeblkbojaaPath3
namespace Go.Proofs.Ytdhkhdeblkbojaa
open Go.RowKit
attribute [local go_sem ↓] Go.wp_at_zero Go.wp_at_succ

/-- what is left of the nibbles behind the flag -/
def restOf (l : List UInt8) : List UInt8 := if ((nibs l).getD 0 0).toNat % 2 = 0 then (nibs l).drop 2 else (nibs l).drop 1
def leafOf (l : List UInt8) : Bool := decide (2 ≤ ((nibs l).getD 0 0).toNat)

theorem unnibs_nibs (l : List UInt8) : unnibs (nibs l) = l := by
  induction l with
  | nil => rfl
  | cons x r ih =>
    have e : nibs (x :: r) = x / 16 :: x % 16 :: nibs r := rfl
    rw [e, unnibs, ih]
    congr 1
    apply UInt8.toNat_inj.1
    have := x.toNat_lt
    simp [UInt8.toNat_add, UInt8.toNat_mul, UInt8.toNat_div, UInt8.toNat_mod]; omega
theorem nibs_le (l : List UInt8) : ∀ x ∈ nibs l, x.toNat ≤ 15 := by
  intro x hx
  simp only [nibs, List.mem_flatMap] at hx
  obtain ⟨y, _, hy⟩ := hx
  have := y.toNat_lt
  simp at hy
  rcases hy with rfl | rfl <;> simp [UInt8.toNat_div, UInt8.toNat_mod] <;> omega
theorem good_nibs {l : List UInt8} (h : ∀ x ∈ l, x.toNat ≤ 15) : good l = decide (l.length ≤ 64) := by
  unfold good
  have : l.all (fun x => decide (x.toNat ≤ 15)) = true := by
    simp only [List.all_eq_true, decide_eq_true_eq]
    exact h
  rw [this, Bool.and_true]
theorem restOf_le (l : List UInt8) : ∀ x ∈ restOf l, x.toNat ≤ 15 := by
  intro x hx
  unfold restOf at hx
  split at hx <;> exact nibs_le l x (List.mem_of_mem_drop hx)

theorem rest_cons (x : UInt8) (r : List UInt8) : restOf (x :: r) = (if x.toNat / 16 % 2 = 1 then [x % 16] else []) ++ nibs r := by
  have e : nibs (x :: r) = x / 16 :: x % 16 :: nibs r := rfl
  have e2 : (x / 16).toNat = x.toNat / 16 := by simp
  unfold restOf
  rw [e]
  simp only [List.getD_cons_zero, e2]
  by_cases h : x.toNat / 16 % 2 = 0
  · simp [h]
  · simp [show x.toNat / 16 % 2 = 1 by omega]
theorem leaf_cons (x : UInt8) (r : List UInt8) : leafOf (x :: r) = decide (2 ≤ x.toNat / 16) := by
  have e : nibs (x :: r) = x / 16 :: x % 16 :: nibs r := rfl
  unfold leafOf
  rw [e]
  simp

/-- the reference's answer is the reader's -/
theorem unp_ref (l : List UInt8) (h0 : l ≠ []) : unp l = if good (restOf l) && (packB (restOf l) (leafOf l) == l) then some (restOf l, leafOf l) else none := by
  match l, h0 with
  | x :: r, _ =>
    have hx := x.toNat_lt
    have hrest := rest_cons x r
    have hU : unpN x r = restOf (x :: r) := hrest.symm
    have hg := good_nibs (restOf_le (x :: r))
    rw [unp, hU, leaf_cons]
    by_cases h64 : 64 < (restOf (x :: r)).length
    · rw [if_pos h64]
      simp [hg, show ¬ (restOf (x :: r)).length ≤ 64 by omega]
    · rw [if_neg h64]
      have hgt : good (restOf (x :: r)) = true := by rw [hg]; simp; omega
      simp only [hgt, Bool.true_and]
      rw [packB, if_pos hgt]
      have hlen : (restOf (x :: r)).length % 2 = if x.toNat / 16 % 2 = 1 then 1 else 0 := by
        rw [hrest, List.length_append, nibs_length]
        split <;> simp <;> omega
      by_cases hq : x.toNat / 16 % 2 = 1
      · have hp : unnibs (pre (restOf (x :: r)).length (decide (2 ≤ x.toNat / 16)) ++ restOf (x :: r)) = (16 * (flag (decide (2 ≤ x.toNat / 16)) + 1) + x % 16) :: r := by
          rw [pre, hlen, if_pos hq, if_pos rfl, hrest, if_pos hq]
          show (16 * (flag _ + 1) + x % 16) :: unnibs (nibs r) = _
          rw [unnibs_nibs]
        rw [hp]
        by_cases hb : 4 ≤ x.toNat / 16
        · have hbad : unpBad x = true := by simp [unpBad, hb]
          rw [if_pos hbad]
          have hne : ((16 * (flag (decide (2 ≤ x.toNat / 16)) + 1) + x % 16) :: r == x :: r) = false := by
            simp [show 2 ≤ x.toNat / 16 by omega, flag]
            intro he
            have h2 := congrArg UInt8.toNat he
            simp [UInt8.toNat_add, UInt8.toNat_mod] at h2
            omega
          rw [hne]; simp
        · have hbad : unpBad x = false := by simp [unpBad]; omega
          rw [if_neg (by rw [hbad]; simp)]
          have hne : ((16 * (flag (decide (2 ≤ x.toNat / 16)) + 1) + x % 16) :: r == x :: r) = true := by
            simp
            apply UInt8.toNat_inj.1
            have h13 : x.toNat / 16 = 1 ∨ x.toNat / 16 = 3 := by omega
            rcases h13 with h | h <;> simp [h, flag, UInt8.toNat_add, UInt8.toNat_mod] <;> omega
          rw [hne]; simp
      · have hp : unnibs (pre (restOf (x :: r)).length (decide (2 ≤ x.toNat / 16)) ++ restOf (x :: r)) = (16 * flag (decide (2 ≤ x.toNat / 16))) :: r := by
          rw [pre, hlen, if_neg hq, if_neg (by decide), hrest, if_neg hq]
          show (16 * flag _ + 0) :: unnibs (nibs r) = _
          rw [unnibs_nibs]; simp
        rw [hp]
        by_cases hb : 4 ≤ x.toNat / 16 ∨ x.toNat % 16 ≠ 0
        · have hbad : unpBad x = true := by
            have : x.toNat / 16 % 2 = 0 := by omega
            simp [unpBad, this]; omega
          rw [if_pos hbad]
          have hne : ((16 * flag (decide (2 ≤ x.toNat / 16))) :: r == x :: r) = false := by
            simp
            intro he
            have h2 := congrArg UInt8.toNat he
            by_cases h2q : 2 ≤ x.toNat / 16 <;> simp [h2q, flag] at h2 <;> omega
          rw [hne]; simp
        · have hbad : unpBad x = false := by simp [unpBad]; omega
          rw [if_neg (by rw [hbad]; simp)]
          have hne : ((16 * flag (decide (2 ≤ x.toNat / 16))) :: r == x :: r) = true := by
            simp
            apply UInt8.toNat_inj.1
            have h13 : x.toNat / 16 = 0 ∨ x.toNat / 16 = 2 := by omega
            rcases h13 with h | h <;> simp [h, flag] <;> omega
          rw [hne]; simp

theorem unp_long (l : List UInt8) (h : 33 < l.length) : unp l = none := by
  match l with
  | x :: r =>
    simp at h
    rw [unp]
    split
    · rfl
    · rw [if_pos (by rw [unpN, List.length_append, nibs_length]; omega)]

theorem SB.cutS {w : World} {b off : Nat} {l : List UInt8} (h : RdB w (some ⟨b, off, none⟩) l) {c k n : Nat} (hn : n = l.length) (hc : n ≤ c) (hm : c ≤ maxLen) (hk : k ≤ n) : SB w (.slice (cutA (some ⟨b, off, none⟩) c k) (n - k) (c - k)) (l.drop k) := by
  subst hn
  refine ⟨_, _, by rw [List.length_drop], h.cut hc, by simp; omega, by omega, fun e => ?_⟩
  unfold cutA at e
  split at e <;> cases e
theorem unpE_none {l : List UInt8} (h : unp l = none) : unpE l = 60 := by rw [unpE, h]
theorem unpE_some {l : List UInt8} {p : List UInt8 × Bool} (h : unp l = some p) : unpE l = 0 := by rw [unpE, h]
theorem unpL_none {l : List UInt8} (h : unp l = none) : unpL l = false := by rw [unpL, h]
theorem unpL_some {l : List UInt8} {p : List UInt8 × Bool} (h : unp l = some p) : unpL l = p.2 := by rw [unpL, h]
theorem unpB_none {l : List UInt8} (h : unp l = none) : unpB l = [] := by rw [unpB, h]
theorem unpB_some {l : List UInt8} {p : List UInt8 × Bool} (h : unp l = some p) : unpB l = p.1 := by rw [unpB, h]

set_option maxRecDepth 100000 in
set_option maxHeartbeats 1000000 in
theorem refUnpack_any (va : Value) (l : List UInt8) (w : World) (ha : SB w va l) :
    Calls Try.prog 23 #[va] w fun e w' => ∃ v, e = .returned (.tuple #[v, .bool (unpL l), .int .i64 (unpE l)]) ∧ SB w' v (unpB l) ∧ Below w.heap.size w w' := by
  have hsb := ha
  obtain ⟨A, ca, rfl, ha, na, ma, -⟩ := ha
  unfold maxLen at ma
  by_cases h0 : l = []
  · subst h0
    go_enter Try.func23, Try.ntmps23
    go_wp2
    go_ret3
    exact ⟨.slice none 0 0, rfl, SB.nil _, Below.refl _ _⟩
  have hl0 : ((l.length : Int) == 0) = false := by
    have : l.length ≠ 0 := by simpa using h0
    simp; omega
  by_cases h33 : 33 < l.length
  · have h33' : (33 : Int) < (l.length : Int) := by omega
    have HF := Lib.hid (unp_long l h33)
    go_enter Try.func23, Try.ntmps23
    go_wp2
    go_ret3
    exact ⟨.slice none 0 0, by rw [unpL, unpE, HF.out]; rfl, by rw [unpB, HF.out]; exact SB.nil _, Below.refl _ _⟩
  have h33' : ¬ (33 : Int) < (l.length : Int) := by omega
  have HC := Lib.hid (nibbles_any (.slice A l.length ca) l w hsb (by omega))
  have hunp := unp_ref l h0
  have HU := Lib.hid hunp
  have hnl := nibs_length l
  have hl1 : 0 < l.length := by
    have : l.length ≠ 0 := by simpa using h0
    omega
  clear hunp
  have HN0 : Hid (∀ h : 0 < (nibs l).length, (nibs l).getD 0 0 = (nibs l)[0]) := fun h => by simp [List.getD, h]
  have HNL := Lib.hid hnl
  have hnp : (0 : Int) < ((nibs l).length : Int) := by omega
  have hnp2 : (2 : Int) ≤ ((nibs l).length : Int) := by omega
  have hnp1 : (1 : Int) ≤ ((nibs l).length : Int) := by omega
  have hnm : ((nibs l).length : Int) ≤ 66 := by omega
  clear hnl
  go_enter Try.func23, Try.ntmps23
  go_upto_region 4 with (go_at_call 52; refine HC.out.mono ?_; rintro e w1 ⟨v1, rfl, ho1, hb1⟩)
  obtain ⟨A1, c1, rfl, hr1, hc1, hm1, -⟩ := ho1.form
  have hsb1 := ho1.sb
  obtain ⟨b, off, rfl, hcell⟩ := hr1 0 (by omega)
  rw [Nat.add_zero] at hcell
  unfold maxLen at hm1
  have h8 := u8_lt (nibs l)[0]
  have hleaf : decide ((2 : Int) ≤ (((nibs l)[0].toNat : Nat) : Int)) = leafOf l := by
    rw [leafOf, HN0.out (by omega)]
    by_cases h : 2 ≤ (nibs l)[0].toNat
    · rw [decide_eq_true h]; exact decide_eq_true (by omega)
    · rw [decide_eq_false h]; exact decide_eq_false (by omega)
  have hsl1 : ∀ W, (Instr.slice 22 (.slice (some ⟨b, off, none⟩) (nibs l).length c1) (some (.int .i64 1)) none none).run Try.prog W = .ok (.slice (cutA (some ⟨b, off, none⟩) c1 1) ((nibs l).length - 1) (c1 - 1)) W := run_slice_from bytesT _ _ _ 1 (by omega)
  have hsl2 : ∀ W, (Instr.slice 22 (.slice (some ⟨b, off, none⟩) (nibs l).length c1) (some (.int .i64 2)) none none).run Try.prog W = .ok (.slice (cutA (some ⟨b, off, none⟩) c1 2) ((nibs l).length - 2) (c1 - 2)) W := run_slice_from bytesT _ _ _ 2 (by omega)
  have HR : Hid (∃ k, k ≤ 2 ∧ restOf l = (nibs l).drop k ∧ (k = 2 ↔ (nibs l)[0].toNat % 2 = 0) ∧ (k = 1 ↔ (nibs l)[0].toNat % 2 ≠ 0)) := by
    show ∃ k, _
    rw [restOf, HN0.out (by omega)]
    by_cases h : (nibs l)[0].toNat % 2 = 0
    · exact ⟨2, by omega, by rw [if_pos h], by simp [h], by simp [h]⟩
    · exact ⟨1, by omega, by rw [if_neg h], by simp [h], by simp [h]⟩
  go_upto_if 30 with fail
  go_cut [7] (fun s7 wx => SB wx s7 (restOf l) ∧ Below w.heap.size w wx ∧ Below w1.heap.size w1 wx)
  case first =>
    obtain ⟨k, hk, hrest, hk2, hk1⟩ := HR.out
    have HS2 := Lib.hid (SB.cutS hr1 rfl hc1 (by unfold maxLen; omega) (k := 2) (by omega))
    have HS1 := Lib.hid (SB.cutS hr1 rfl hc1 (by unfold maxLen; omega) (k := 1) (by omega))
    by_cases h : (nibs l)[0].toNat % 2 = 0
    · have e : k = 2 := hk2.2 h
      subst e
      have HRE := Lib.hid hrest
      have t : ((((nibs l)[0].toNat : Nat) : Int) % 2 == 0) = true := by simp; omega
      clear hk1 hk2 hrest h HR
      go_wp2
      go_meet
      case rel => exact ⟨by rw [HRE.out]; exact HS2.out, hb1, Below.refl _ _⟩
    · have e : k = 1 := hk1.2 h
      subst e
      have HRE := Lib.hid hrest
      have t : ((((nibs l)[0].toNat : Nat) : Int) % 2 == 0) = false := by simp; omega
      clear hk1 hk2 hrest h HR
      go_wp2
      go_meet
      case rel => exact ⟨by rw [HRE.out]; exact HS1.out, hb1, Below.refl _ _⟩
  case rest =>
    obtain ⟨hs7, hbel, hbel1⟩ := hcut
    have HP := Lib.hid (refPack_any u7 (restOf l) (leafOf l) wc hs7)
    have HS7 := Lib.hid hs7
    clear hs7 hleaf hsl1 hsl2 HR
    cases hg : good (restOf l) with
    | false =>
      have HF := Lib.hid (show unp l = none by rw [HU.out, hg]; rfl)
      have hpe : packE (restOf l) = 60 := by rw [packE, hg]; rfl
      rw [hpe] at HP
      clear hg hpe
      go_wp2_with (go_at_call 16; refine HP.out.mono ?_; rintro e w3 ⟨v3, rfl, ho3, hb3⟩)
      go_ret3
      exact ⟨.slice none 0 0, by rw [unpL_none HF.out, unpE_none HF.out]; rfl, by rw [unpB_none HF.out]; exact SB.nil _, bel_trans hbel hb3⟩
    | true =>
      have hpe : packE (restOf l) = 0 := by rw [packE, hg]; rfl
      rw [hpe] at HP
      clear hpe
      have HG := Lib.hid hg
      clear hg
      cases hq : (packB (restOf l) (leafOf l) == l) with
      | false =>
        have HF := Lib.hid (show unp l = none by rw [HU.out, HG.out, hq]; rfl)
        have hS : ∀ (v3 : Value) (w3 : World), Below wc.heap.size wc w3 → OwnB w3 wc.heap.size v3 (packB (restOf l) (leafOf l)) → Calls Try.prog 17 #[v3, .slice A l.length ca] w3 fun e w' => e = .returned (.bool false) ∧ ∃ n, w' = w3.drewN n := fun v3 w3 hb ho => by
          have := same_any v3 (.slice A l.length ca) _ l w3 ho.sb (hsb.below (bel_trans hbel hb))
          rw [hq] at this
          exact this
        have HSm := Lib.hid hS
        clear hS hq
        go_wp2_with (first | (go_at_call 16; refine HP.out.mono ?_; rintro e w3 ⟨v3, rfl, ho3, hb3⟩; have HO3 := Lib.hid ho3; have HB3 := Lib.hid hb3; clear ho3 hb3) | (go_at_call 17; refine (HSm.out _ _ HB3.out HO3.out).mono ?_; rintro e w4 ⟨rfl, n4, rfl⟩))
        go_ret3
        exact ⟨.slice none 0 0, by rw [unpL_none HF.out, unpE_none HF.out]; rfl, by rw [unpB_none HF.out]; exact SB.nil _, bel_drewN (bel_trans hbel HB3.out) _⟩
      | true =>
        have HF := Lib.hid (show unp l = some (restOf l, leafOf l) by rw [HU.out, HG.out, hq]; rfl)
        have hS : ∀ (v3 : Value) (w3 : World), Below wc.heap.size wc w3 → OwnB w3 wc.heap.size v3 (packB (restOf l) (leafOf l)) → Calls Try.prog 17 #[v3, .slice A l.length ca] w3 fun e w' => e = .returned (.bool true) ∧ ∃ n, w' = w3.drewN n := fun v3 w3 hb ho => by
          have := same_any v3 (.slice A l.length ca) _ l w3 ho.sb (hsb.below (bel_trans hbel hb))
          rw [hq] at this
          exact this
        have HSm := Lib.hid hS
        clear hS hq
        go_wp2_with (first | (go_at_call 16; refine HP.out.mono ?_; rintro e w3 ⟨v3, rfl, ho3, hb3⟩; have HO3 := Lib.hid ho3; have HB3 := Lib.hid hb3; clear ho3 hb3) | (go_at_call 17; refine (HSm.out _ _ HB3.out HO3.out).mono ?_; rintro e w4 ⟨rfl, n4, rfl⟩))
        go_ret3
        refine ⟨u7, by rw [unpL_some HF.out, unpE_some HF.out]; rfl, ?_, bel_drewN (bel_trans hbel HB3.out) _⟩
        rw [unpB_some HF.out]
        exact (HS7.out.below HB3.out).drewN _
end Go.Proofs.Ytdhkhdeblkbojaa
