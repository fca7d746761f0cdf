/- Plain laws for the limits of the form. -/
import Derived.Test.YtdhkhdeblkbojaaRlpLaw6
import Derived.Test.YtdhkhdeblkbojaaGrowB
import Derived.KernelRfl
namespace Go.Proofs.Ytdhkhdeblkbojaa

def chain : Nat → It
  | 0 => .mk true [] []
  | k + 1 => .mk true [] [chain k]
theorem chain_deep (k : Nat) : ∀ m, deepI (chain k) m = decide (m ≤ k) := by
  induction k with
  | zero => intro m; rw [chain, deepI, deepL]; cases m <;> simp
  | succ k ih =>
    intro m
    rw [chain, deepI, deepL, deepL, ih]
    cases m <;> simp
theorem chain_may (k : Nat) : mayI (chain k) = true := by
  induction k with
  | zero => rw [chain, mayI, mayL]; rfl
  | succ k ih => rw [chain, mayI, mayL, mayL, ih]; rfl
theorem chain_wt (k : Nat) : wtI (chain k) = 16 * (k + 1) := by
  induction k with
  | zero => rw [chain, wtI, wtL]; rfl
  | succ k ih => rw [chain, wtI, wtL, wtL, ih]; simp; omega
theorem chain_len (k : Nat) (hk : k ≤ 1000) : (formI (chain k)).length ≤ 8 * (k + 1) := by
  induction k with
  | zero => rw [chain, formI, formL]; simp [headB]
  | succ k ih =>
    have := ih (by omega)
    rw [chain, formI, formL, formL]
    have h := headB_len (n := (formI (chain k) ++ []).length) (by simp; omega) 192
    simp at h ⊢
    omega
theorem enc_of {x : It} (h1 : deepI x 80 = false) (h2 : mayI x = true) (h3 : (formI x).length ≤ 1048576) : encR x = (formI x, 0) := by
  have := size_form x h3
  rw [encR, if_neg (by rw [h1]; decide), if_neg (by rw [h2]; decide), if_neg (by omega)]
theorem enc_chain : encR (chain 79) = (formI (chain 79), 0) := by
  have := chain_len 79 (by omega)
  exact enc_of (by rw [chain_deep]; decide) (chain_may _) (by omega)
theorem enc_deep : encR (chain 80) = ([], 53) := by
  rw [encR, if_pos (by rw [chain_deep]; decide)]

def deepB : Nat → List UInt8
  | 0 => [192]
  | k + 1 => (if 56 ≤ (deepB k).length then [248, UInt8.ofNat (deepB k).length] else [UInt8.ofNat (192 + (deepB k).length)]) ++ deepB k
theorem deepB_len (k : Nat) : (deepB k).length ≤ 2 * k + 1 ∧ 1 ≤ (deepB k).length := by
  induction k with
  | zero => simp [deepB]
  | succ k ih =>
    rw [deepB]
    split <;> simp <;> omega
theorem deepB_short (k : Nat) (h : k ≤ 54) : (deepB k).length = k + 1 := by
  induction k with
  | zero => rfl
  | succ k ih =>
    have := ih (by omega)
    rw [deepB, if_neg (by omega)]
    simp; omega
theorem dec_deepB : decR (deepB 80) = .bad 105 53 := by kernel_rfl
theorem len_deepB : (deepB 80).length = 106 := by kernel_rfl

theorem head_most : headB 1048572 128 = [186, 15, 255, 252] := by
  rw [headB, if_neg (by omega), beB_pos (by omega), beB_pos (by omega), beB_pos (by omega), show 1048572 / 256 / 256 / 256 = 0 from rfl, beB_zero]
  rfl
theorem form_zeros (n : Nat) (h : 2 ≤ n) : formI (.mk false (zeros n) []) = headB n 128 ++ zeros n := by
  rw [formI]
  simp only [Bool.false_eq_true, if_false]
  rw [if_neg (by rw [zeros_len]; omega), zeros_len]
theorem deep_str (b : List UInt8) (m : Nat) : deepI (.mk false b []) m = false := by rw [deepI]; rfl
theorem may_str (b : List UInt8) : mayI (.mk false b []) = true := by rw [mayI]; rfl
theorem enc_most {n : Nat} (hn : n = 1048572) : encR (.mk false (zeros n) []) = (headB n 128 ++ zeros n, 0) ∧ (headB n 128 ++ zeros n).length = 1048576 := by
  have h := form_zeros n (by omega)
  have h2 : (headB n 128).length = 4 := by rw [hn, head_most]; rfl
  have hl : (headB n 128 ++ zeros n).length = 1048576 := by rw [List.length_append, h2, zeros_len]; omega
  have := enc_of (deep_str (zeros n) 80) (may_str _) (by rw [h, hl]; exact Nat.le_refl _)
  rw [this, h]
  exact ⟨rfl, hl⟩
theorem head_more : (headB 1048573 128).length = 4 := by
  rw [headB, if_neg (by omega), beB_pos (by omega), beB_pos (by omega), beB_pos (by omega), show 1048573 / 256 / 256 / 256 = 0 from rfl, beB_zero]
  rfl
theorem enc_more {n : Nat} (hn : n = 1048573) : encR (.mk false (zeros n) []) = ([], 54) := by
  have h2 : (headB n 128).length = 4 := by rw [hn]; exact head_more
  have hs : sizeI (.mk false (zeros n) []) = n + 4 := by
    rw [sizeI]
    simp only [Bool.false_eq_true, if_false]
    rw [if_neg (by rw [zeros_len]; omega), zeros_len, h2]
  rw [encR, if_neg (by rw [deep_str]; decide), if_neg (by rw [may_str]; decide), if_pos (by omega)]
theorem dec_big {b : List UInt8} (h : 1048576 < b.length) : decR b = .bad 0 54 := by
  rw [decR, readR, if_pos h]
end Go.Proofs.Ytdhkhdeblkbojaa
