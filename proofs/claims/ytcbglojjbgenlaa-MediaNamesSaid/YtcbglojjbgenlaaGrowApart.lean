/- Rows that growths have brought: apart from one another; the call of Apart over a literal of them. -/
import Derived.Test.YtcbglojjbgenlaaApart
import Derived.Test.YtcbglojjbgenlaaGrowB
namespace Go.Proofs.Ytcbglojjbgenlaa
open Go.RowKit

/-- The bytes l in a row that the growth D brought. -/
structure OwnG (n : Nat) (D : Dl) (v : Value) (l : List UInt8) : Prop where
  own : ∀ W, At n D W → OwnB W n v l
  rg : ∀ g, v.ownBlock = some g → n ≤ g ∧ g < n + D.k
theorem ownG {w : World} {D : Dl} {v : Value} {l : List UInt8} (h : OwnB (w.gr D) w.heap.size v l) : OwnG w.heap.size D v l :=
  ⟨ownB_at h, fun g hg => by have := h.lt g hg; rw [size_gr] at this; exact this⟩
/-- The blocks of the values rise from lo on. -/
def Rising : List Value → Nat → Prop
  | [], _ => True
  | v :: r, lo => ∃ a b, lo ≤ a ∧ a ≤ b ∧ (∀ g, v.ownBlock = some g → a ≤ g ∧ g < b) ∧ Rising r b
theorem Rising.ge : ∀ (vs : List Value) (lo : Nat), Rising vs lo → ∀ v ∈ vs, ∀ g, v.ownBlock = some g → lo ≤ g
  | [], _, _ => fun v hv => by simp at hv
  | u :: r, lo, ⟨a, b, h1, h2, h3, h4⟩ => fun v hv g hg => by
    rcases List.mem_cons.1 hv with rfl | hv
    · have := (h3 g hg).1; omega
    · have := Rising.ge r b h4 v hv g hg; omega
theorem Rising.dist : ∀ (vs : List Value) (lo : Nat), Rising vs lo → Dist vs
  | [], _, _ => fun i j hi => by simp at hi
  | u :: r, lo, ⟨a, b, h1, h2, h3, h4⟩ => fun i j hi hj hij g hg hg' => by
    have hd := Rising.dist r b h4
    have hge := Rising.ge r b h4
    match i, j, hi, hj with
    | 0, 0, _, _ => exact hij rfl
    | 0, j + 1, _, hj =>
      have h5 := (h3 g hg).2
      have h6 := hge _ (List.getElem_mem (by simpa using hj)) g hg'
      omega
    | i + 1, 0, hi, _ =>
      have h5 := (h3 g hg').2
      have h6 := hge _ (List.getElem_mem (by simpa using hi)) g hg
      omega
    | i + 1, j + 1, hi, hj => exact hd i j (by simpa using hi) (by simpa using hj) (by omega) g hg hg'
/-- values with the ranges in which their blocks lie -/
def InR (l : List (Value × Nat × Nat)) : Prop := ∀ x ∈ l, ∀ g, x.1.ownBlock = some g → x.2.1 ≤ g ∧ g < x.2.2
theorem InR.nil : InR [] := fun x hx => by simp at hx
theorem InR.cons {v : Value} {a b : Nat} {l : List (Value × Nat × Nat)} (h : ∀ g, v.ownBlock = some g → a ≤ g ∧ g < b) (hl : InR l) : InR ((v, a, b) :: l) := fun x hx => by
  rcases List.mem_cons.1 hx with rfl | hx
  · exact h
  · exact hl x hx
theorem dist_of : ∀ {l : List (Value × Nat × Nat)}, InR l → l.Pairwise (fun x y => x.2.2 ≤ y.2.1 ∨ y.2.2 ≤ x.2.1) → Dist (l.map (·.1))
  | [], _, _ => fun i j hi => by simp at hi
  | u :: r, h, hp => fun i j hi hj hij g hg hg' => by
    obtain ⟨h1, h2⟩ := List.pairwise_cons.1 hp
    have hd := dist_of (l := r) (fun x hx => h x (List.mem_cons_of_mem _ hx)) h2
    have hu := h u (by simp)
    match i, j, hi, hj with
    | 0, 0, _, _ => exact hij rfl
    | 0, j + 1, _, hj =>
      have hj' : j < r.length := by simpa using hj
      have h3 := h r[j] (List.mem_cons_of_mem _ (List.getElem_mem _)) g (by simpa using hg')
      have h4 := h1 r[j] (List.getElem_mem _)
      have h5 := hu g (by simpa using hg)
      omega
    | i + 1, 0, hi, _ =>
      have hi' : i < r.length := by simpa using hi
      have h3 := h r[i] (List.mem_cons_of_mem _ (List.getElem_mem _)) g (by simpa using hg)
      have h4 := h1 r[i] (List.getElem_mem _)
      have h5 := hu g (by simpa using hg')
      omega
    | i + 1, j + 1, hi, hj => exact hd i j (by simpa using hi) (by simpa using hj) (by omega) g (by simpa using hg) (by simpa using hg')
theorem inS_of {l : List (Value × Nat × Nat)} (h : InR l) {k : Nat} (hk : InS (l.map (·.1)) k) : ∃ x ∈ l, x.2.1 ≤ k ∧ k < x.2.2 := by
  obtain ⟨i, hi, hb⟩ := hk
  have hi' : i < l.length := by simpa using hi
  exact ⟨l[i], List.getElem_mem _, h l[i] (List.getElem_mem _) k (by simpa using hb)⟩
end Go.Proofs.Ytcbglojjbgenlaa
