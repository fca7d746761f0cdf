/- Walks of cairnref01: Nibbles, Bytes. -/
import Derived.Test.YtcbglojjbgenlaaRef01
namespace Go.Proofs.Ytcbglojjbgenlaa
open Go.RowKit
attribute [local go_sem ↓] Go.wp_at_zero Go.wp_at_succ

theorem bytesT : SlT Try.prog 29 5 (.int .u8 0) 1 1 := ⟨Try.underlying29, by kernel_rfl, rfl, by decide⟩

/-- the nibbles of bytes -/
def nibs (l : List UInt8) : List UInt8 := l.flatMap fun x => [x / 16, x % 16]
theorem nibs_snoc (l : List UInt8) (x : UInt8) : nibs (l ++ [x]) = nibs l ++ [x / 16, x % 16] := by simp [nibs]
theorem nibs_length (l : List UInt8) : (nibs l).length = 2 * l.length := by
  induction l with
  | nil => rfl
  | cons a r ih => simp [nibs] at ih ⊢; omega
theorem take_snoc (l : List UInt8) (k : Nat) (h : k < l.length) : l.take (k + 1) = l.take k ++ [l[k]] := List.take_succ_eq_append_getElem h

/-- bytes of pairs of nibbles -/
def unnibs : List UInt8 → List UInt8
  | a :: b :: r => (16 * a + b) :: unnibs r
  | _ => []
theorem unnibs_two (l : List UInt8) (m : Nat) (x y : UInt8) (hx : l[2 * m]? = some x) (hy : l[2 * m + 1]? = some y) : unnibs (l.take (2 * (m + 1))) = unnibs (l.take (2 * m)) ++ [16 * x + y] := by
  induction m generalizing l with
  | zero =>
    match l, hx, hy with
    | a :: b :: r, hx, hy => simp at hx hy; simp [unnibs, hx, hy]
  | succ m ih =>
    match l, hx, hy with
    | a :: b :: r, hx, hy =>
      have e1 : 2 * (m + 1 + 1) = 2 * (m + 1) + 1 + 1 := by omega
      have e2 : 2 * (m + 1) = 2 * m + 1 + 1 := by omega
      rw [e2] at hx hy
      have := ih r (by simpa using hx) (by simpa using hy)
      rw [e1, List.take_succ_cons, List.take_succ_cons, unnibs, this, e2, List.take_succ_cons, List.take_succ_cons, unnibs]
      simp
    | [a], hx, hy => simp at hy
    | [], hx, hy => simp at hx
theorem unnibs_length (l : List UInt8) : (unnibs l).length = l.length / 2 := by
  induction l using unnibs.induct with
  | case1 a b r ih => simp [unnibs, ih]; omega
  | case2 l h =>
    match l, h with
    | [], _ => rfl
    | [a], _ => simp [unnibs]
    | a :: b :: r, h => exact (h a b r rfl).elim

/-- which nibbles are no bytes -/
def badN (l : List UInt8) : Bool := decide (l ≠ []) && (decide (l.length % 2 = 1) || l.any (fun x => decide (15 < x.toNat)))
def refBytes (l : List UInt8) : List UInt8 × Int := if badN l then ([], 2) else (unnibs l, 0)

theorem badN_at (l : List UInt8) (k : Nat) (h : k < l.length) (h' : 15 < l[k].toNat ∨ l.length % 2 = 1) : refBytes l = ([], 2) := by
  have hb : badN l = true := by
    unfold badN
    have hne : l ≠ [] := by intro e; subst e; simp at h
    simp [hne]
    rcases h' with h' | h'
    · exact .inr ⟨l[k], List.getElem_mem h, h'⟩
    · exact .inl h'
  simp [refBytes, hb]
theorem badN_not (l : List UInt8) (h : ∀ k (hk : k < l.length), l[k].toNat ≤ 15) (h' : l.length = 0 ∨ l.length % 2 = 0) : refBytes l = (unnibs l, 0) := by
  have hb : badN l = false := by
    unfold badN
    simp
    intro hne
    refine ⟨by rcases h' with h' | h' <;> omega, fun x hx => ?_⟩
    obtain ⟨k, hk, rfl⟩ := List.mem_iff_getElem.1 hx
    exact h k hk
  simp [refBytes, hb]

end Go.Proofs.Ytcbglojjbgenlaa
