/- rlp.shortest, rlp.head. -/
import Derived.Test.YtdhkhdeblkbojaaRlpForm
namespace Go.Proofs.Ytdhkhdeblkbojaa
open Go.RowKit
attribute [local go_sem ↓] Go.wp_at_zero Go.wp_at_succ

/-- a number's bytes, the highest first, no zero ahead -/
def beB (n : Nat) : List UInt8 := if _h : n = 0 then [] else beB (n / 256) ++ [UInt8.ofNat n]
termination_by n
decreasing_by omega
theorem beB_zero : beB 0 = [] := by rw [beB]; simp
theorem beB_pos {n : Nat} (h : n ≠ 0) : beB n = beB (n / 256) ++ [UInt8.ofNat n] := by rw [beB]; simp [h]
theorem bv_ofNat (n : Nat) : Value.int .u8 (IntKind.u8.wrap (n : Int)) = bv (UInt8.ofNat n) := by
  simp [bv, IntKind.wrap_u8]

set_option maxRecDepth 100000 in
set_option maxHeartbeats 1000000 in
theorem shortest_any (n : Nat) (hn : n < 256 ^ 8) (w : World) : Calls Try.prog 66 #[.int .u64 (n : Int)] w fun e w' => ∃ v, e = .returned v ∧ OwnB w' w.heap.size v (beB n) ∧ Below w.heap.size w w' := by
  go_enter Try.func66, Try.ntmps66
  go_wp2_with fail
  go_loopw [0, 3] (fun v0 v3 wr => ∃ (m k : Nat) (l : List UInt8), v0 = .int .u64 (m : Int) ∧ m < 256 ^ k ∧ l.length + k ≤ 8 ∧ beB n = beB m ++ l ∧ OwnB wr w.heap.size v3 l ∧ Below w.heap.size w wr) (fun v0 _ _ => (intOf v0).toNat)
  case atStart => exact ⟨n, 8, [], rfl, hn, by simp, by simp, OwnB.nil _ _, Below.refl _ _⟩
  case round =>
    obtain ⟨m, k, l, rfl, hmk, hlk, hbe, hown, hbel⟩ := hrel
    by_cases h1 : 0 < m
    · have h1' : (0 : Int) < (m : Int) := by omega
      have hbv := bv_ofNat m
      have HO := Lib.hid hown
      have HBv := Lib.hid hbv
      have hl8 : l.length ≤ 8 := by omega
      have HBe := Lib.hid hbe
      have HMk := Lib.hid hmk
      have hsz := hbel.size
      have HBl := Lib.hid hbel
      clear hbv hown hbe hmk hbel
      have hown2 := own_lit wr #[.int .u8 (IntKind.u8.wrap (m : Int))] 5 (base := w.heap.size) (size := 1) (n := 1) hsz (by simp [maxLen]) (by rfl)
      have HOw2 := Lib.hid hown2
      clear hown2
      go_wp2_with (at_builtin; (refine wpList_ap (s := .tmp 10) (x := .tmp 11) bytesT rfl rfl (by rfl) HOw2.out (by rfl) ((Src.own HO.out).below ((Below.refl _ _).alloc (Nat.le_refl _) _)) (bv_one l) (by simp only [maxLen]; omega) (by omega) (by simp; omega) ?_); intro v1 w1 hap)
      have hk : k ≠ 0 := fun e => by have := HMk.out; subst e; simp at this; omega
      obtain ⟨k', rfl⟩ : ∃ k', k = k' + 1 := ⟨k - 1, by omega⟩
      have hmk' : m / 256 < 256 ^ k' := Nat.div_lt_of_lt_mul (by have := HMk.out; rw [Nat.pow_succ] at this; omega)
      refine ⟨⟨m / 256, k', UInt8.ofNat m :: l, congrArg (Value.int .u64) (by omega), hmk', by simp; omega, by rw [HBe.out, beB_pos (by omega : m ≠ 0)]; simp, OwnB.of hap.1 (by rw [HBv.out]; simp), ap_below (HBl.out.alloc hsz _) hap (by simp; omega) (fun k hk => by simp [Value.ownBlock] at hk; omega)⟩, by simp only [intOf]; omega⟩
    · have hm0 : m = 0 := by omega
      subst hm0
      have HO := Lib.hid hown
      have HBe := Lib.hid hbe
      have HBl := Lib.hid hbel
      have h1' : ¬ (0 : Int) < ((0 : Nat) : Int) := by omega
      clear hown hbe hbel
      go_wp2_with fail
      go_ret
      refine ⟨_, rfl, ?_, HBl.out⟩
      rw [HBe.out, beB_zero, List.nil_append]
      exact HO.out
def headB (n : Nat) (base : UInt8) : List UInt8 := if n < 56 then [base + UInt8.ofNat n] else (base + 55 + UInt8.ofNat (beB n).length) :: beB n
theorem beB_len (k : Nat) : ∀ n, n < 256 ^ k → (beB n).length ≤ k := by
  induction k with
  | zero => intro n h; have : n = 0 := by simpa using h
            subst this; simp [beB_zero]
  | succ k ih =>
    intro n h
    by_cases h0 : n = 0
    · subst h0; simp [beB_zero]
    · rw [beB_pos h0]
      have := ih (n / 256) (Nat.div_lt_of_lt_mul (by rw [Nat.pow_succ] at h; omega))
      simp; omega

set_option maxRecDepth 100000 in
set_option maxHeartbeats 1000000 in
theorem head_any (n : Nat) (base : UInt8) (hn : n < 256 ^ 7) (w : World) : Calls Try.prog 72 #[.int .i64 (n : Int), .int .u8 ((base.toNat : Nat) : Int)] w fun e w' => ∃ v, e = .returned v ∧ OwnB w' w.heap.size v (headB n base) ∧ Below w.heap.size w w' := by
  have hbs := base.toNat_lt
  have hn' : n < 2 ^ 62 := by have : (256 : Nat) ^ 7 < 2 ^ 62 := by decide
                              omega
  have hn2 : (n : Int) < 4611686018427387904 := by omega
  by_cases h1 : n < 56
  · have hfin : Hid (headB n base = [base + UInt8.ofNat n]) := if_pos h1
    have h1' : (n : Int) < 56 := by omega
    go_enter Try.func72, Try.ntmps72
    go_wp2_with fail
    go_ret
    refine ⟨_, rfl, ?_, (Below.refl _ _).alloc (Nat.le_refl _) _⟩
    rw [hfin.out]
    refine OwnB.of (own_lit w _ 5 (size := 1) (n := 1) (Nat.le_refl _) (by simp [maxLen]) (by rfl)) ?_
    simp [bv, UInt8.toNat_add]
    try omega
  · have hfin : Hid (headB n base = (base + 55 + UInt8.ofNat (beB n).length) :: beB n) := if_neg h1
    have h1' : ¬ (n : Int) < 56 := by omega
    have hln := beB_len 7 n hn
    go_enter Try.func72, Try.ntmps72
    go_wp2_with fail
    refine (shortest_any n (Nat.lt_of_lt_of_le hn (by decide)) w).mono ?_
    rintro en w1 ⟨v, rfl, hown, hbel⟩
    obtain ⟨A5, c5, rfl, -⟩ := hown.form
    have HO := Lib.hid hown
    have HBl := Lib.hid hbel
    have hsz := hbel.size
    have hlen : ((beB n).length : Int) ≤ 7 := by omega
    clear hown hbel
    go_wp2_with (at_builtin; (refine wpList_ap (s := .tmp 23) (x := .tmp 24) bytesT rfl rfl (by rfl) (own_lit w1 #[_] 5 (base := w.heap.size) (size := 1) (n := 1) hsz (by simp [maxLen]) (by rfl)) (by rfl) ((Src.own HO.out).below ((Below.refl _ _).alloc (Nat.le_refl _) _)) (bv_one (beB n)) (by simp only [maxLen]; omega) (by omega) (by simp; omega) ?_); intro v1 w2 hap)
    go_ret
    have e1 : ((((base + 55 + UInt8.ofNat (beB n).length).toNat : Nat)) : Int) = ((base.toNat : Int) + 56 - 1 + ((beB n).length : Int)) % 256 := by
      simp [UInt8.toNat_add]
      omega
    refine ⟨_, rfl, ?_, ap_below (HBl.out.alloc hsz _) hap (by simp; omega) (fun k hk => by simp [Value.ownBlock] at hk; omega)⟩
    rw [hfin.out]
    refine OwnB.of hap.1 ?_
    rw [List.map_cons, bv, e1]
    rfl
end Go.Proofs.Ytdhkhdeblkbojaa
