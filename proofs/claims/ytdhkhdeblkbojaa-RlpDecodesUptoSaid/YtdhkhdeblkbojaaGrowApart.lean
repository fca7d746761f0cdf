/- Rows that growths have brought: apart from one another; the call of Apart over a literal of them. -/
import Derived.Test.YtdhkhdeblkbojaaApart
import Derived.Test.YtdhkhdeblkbojaaGrowB
namespace Go.Proofs.Ytdhkhdeblkbojaa
open Go.RowKit

/-- The bytes l in a row that the growth D brought. -/
structure OwnG (n : Nat) (D : Dl) (v : Value) (l : List UInt8) : Prop where
  own : ∀ W, At n D W → OwnB W n v l
  rg : ∀ g, v.ownBlock = some g → n ≤ g ∧ g < n + D.k
theorem ownG {w : World} {D : Dl} {v : Value} {l : List UInt8} (h : OwnB (w.gr D) w.heap.size v l) : OwnG w.heap.size D v l :=
  ⟨ownB_at h, fun g hg => by have := h.lt g hg; rw [size_gr] at this; exact this⟩
/-- The blocks of the values rise from lo on. -/
def Rising : List Value → Nat → Prop
  | [], _ => True
  | v :: r, lo => ∃ a b, lo ≤ a ∧ a ≤ b ∧ (∀ g, v.ownBlock = some g → a ≤ g ∧ g < b) ∧ Rising r b
theorem Rising.ge : ∀ (vs : List Value) (lo : Nat), Rising vs lo → ∀ v ∈ vs, ∀ g, v.ownBlock = some g → lo ≤ g
  | [], _, _ => fun v hv => by simp at hv
  | u :: r, lo, ⟨a, b, h1, h2, h3, h4⟩ => fun v hv g hg => by
    rcases List.mem_cons.1 hv with rfl | hv
    · have := (h3 g hg).1; omega
    · have := Rising.ge r b h4 v hv g hg; omega
theorem Rising.dist : ∀ (vs : List Value) (lo : Nat), Rising vs lo → Dist vs
  | [], _, _ => fun i j hi => by simp at hi
  | u :: r, lo, ⟨a, b, h1, h2, h3, h4⟩ => fun i j hi hj hij g hg hg' => by
    have hd := Rising.dist r b h4
    have hge := Rising.ge r b h4
    match i, j, hi, hj with
    | 0, 0, _, _ => exact hij rfl
    | 0, j + 1, _, hj =>
      have h5 := (h3 g hg).2
      have h6 := hge _ (List.getElem_mem (by simpa using hj)) g hg'
      omega
    | i + 1, 0, hi, _ =>
      have h5 := (h3 g hg').2
      have h6 := hge _ (List.getElem_mem (by simpa using hi)) g hg
      omega
    | i + 1, j + 1, hi, hj => exact hd i j (by simpa using hi) (by simpa using hj) (by omega) g hg hg'
/-- values with the ranges in which their blocks lie -/
def InR (l : List (Value × Nat × Nat)) : Prop := ∀ x ∈ l, ∀ g, x.1.ownBlock = some g → x.2.1 ≤ g ∧ g < x.2.2
theorem InR.nil : InR [] := fun x hx => by simp at hx
theorem InR.cons {v : Value} {a b : Nat} {l : List (Value × Nat × Nat)} (h : ∀ g, v.ownBlock = some g → a ≤ g ∧ g < b) (hl : InR l) : InR ((v, a, b) :: l) := fun x hx => by
  rcases List.mem_cons.1 hx with rfl | hx
  · exact h
  · exact hl x hx
theorem dist_of : ∀ {l : List (Value × Nat × Nat)}, InR l → l.Pairwise (fun x y => x.2.2 ≤ y.2.1 ∨ y.2.2 ≤ x.2.1) → Dist (l.map (·.1))
  | [], _, _ => fun i j hi => by simp at hi
  | u :: r, h, hp => fun i j hi hj hij g hg hg' => by
    obtain ⟨h1, h2⟩ := List.pairwise_cons.1 hp
    have hd := dist_of (l := r) (fun x hx => h x (List.mem_cons_of_mem _ hx)) h2
    have hu := h u (by simp)
    match i, j, hi, hj with
    | 0, 0, _, _ => exact hij rfl
    | 0, j + 1, _, hj =>
      have hj' : j < r.length := by simpa using hj
      have h3 := h r[j] (List.mem_cons_of_mem _ (List.getElem_mem _)) g (by simpa using hg')
      have h4 := h1 r[j] (List.getElem_mem _)
      have h5 := hu g (by simpa using hg)
      omega
    | i + 1, 0, hi, _ =>
      have hi' : i < r.length := by simpa using hi
      have h3 := h r[i] (List.mem_cons_of_mem _ (List.getElem_mem _)) g (by simpa using hg)
      have h4 := h1 r[i] (List.getElem_mem _)
      have h5 := hu g (by simpa using hg')
      omega
    | i + 1, j + 1, hi, hj => exact hd i j (by simpa using hi) (by simpa using hj) (by omega) g (by simpa using hg) (by simpa using hg')
theorem inS_of {l : List (Value × Nat × Nat)} (h : InR l) {k : Nat} (hk : InS (l.map (·.1)) k) : ∃ x ∈ l, x.2.1 ≤ k ∧ k < x.2.2 := by
  obtain ⟨i, hi, hb⟩ := hk
  have hi' : i < l.length := by simpa using hi
  exact ⟨l[i], List.getElem_mem _, h l[i] (List.getElem_mem _) k (by simpa using hb)⟩
theorem apart_g {vs : List Value} {cs : Array Value} {cw Wl : World} {g n base : Nat} (hWl : Wl = cw.alloc (.cells cs 22)) (hcs : cs.toList = vs) (hg : cw.heap.size = g) (hn : vs.length = n) (hbase : base ≤ cw.heap.size) (hR : Dist vs)
    (hO : ∀ v ∈ vs, ∃ l, OwnB cw base v l ∧ l.length ≤ 1099511627776) (hm : n ≤ 1099511627776) :
    Calls Try.prog 20 #[.slice (some ⟨g, 0, none⟩) n n] Wl fun e w' => e = .returned (.bool true) ∧ Chg (InS vs) Wl w' ∧ Below base cw w' := by
  subst hWl hcs hg hn
  have hrow : (cw.alloc (.cells cs 22)).ownsRow base 22 1 (.slice (some ⟨cw.heap.size, 0, none⟩) cs.toList.length cs.toList.length) cs.toList.length cs.toList := own_lit cw cs 22 (size := 1) (n := cs.toList.length) hbase (by simp only [maxLen]; omega) (by simp)
  obtain ⟨A, c, hv, hr, _, _, ha⟩ := RdV.own hrow
  injection hv with hA _ _
  have hal : Below cw.heap.size cw (cw.alloc (.cells cs 22)) := (Below.refl _ _).alloc (Nat.le_refl _) _
  subst hA
  have hF : ∀ i (hi : i < cs.toList.length), ∃ l, OwnB cw base cs.toList[i] l ∧ l.length ≤ 1099511627776 := fun i hi => hO _ (List.getElem_mem _)
  refine (apart_any (some ⟨cw.heap.size, 0, none⟩) cs.toList.length cs.toList (fun i => if hi : i < cs.toList.length then (hF i hi).choose else []) base _ hr (fun a ha => ?_) (fun i hi => ?_) hR (by simp; omega) hm (fun i hi => ?_)).mono fun e w' ⟨he, hc⟩ => ⟨he, hc, ?_⟩
  · cases ha
    rintro ⟨i, hi, hb⟩
    obtain ⟨l, hl, _⟩ := hF i hi
    have := (hl.lt _ hb).2
    simp at this
  · dsimp only
    rw [dif_pos hi]
    exact own_below (hF i hi).choose_spec.1 hal
  · rw [dif_pos hi]
    exact (hF i hi).choose_spec.2
  · have hc' : Below base (cw.alloc (.cells cs 22)) w' := hc.bel (fun k ⟨i, hi, hb⟩ => by
      obtain ⟨l, hl, _⟩ := hF i hi
      exact (hl.lt _ hb).1) (by simp; omega)
    exact (hal.mono hbase).trans hc'
end Go.Proofs.Ytdhkhdeblkbojaa
