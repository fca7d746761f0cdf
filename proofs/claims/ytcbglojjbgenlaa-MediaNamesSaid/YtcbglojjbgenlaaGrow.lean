/- A world that has grown: the worlds that a call leaves which writes nothing that was there, as a word that the walk can compute with. Generic: no program in sight. -/
import Derived.Test.YtcbglojjbgenlaaLib
namespace Go.Proofs.Ytcbglojjbgenlaa
open Go.RowKit

/-- What a world has grown by. -/
structure Dl where
  objs : Array Obj
  drawn : Nat
def Dl.k (D : Dl) : Nat := D.objs.size
/-- The world, grown. -/
def _root_.Go.World.gr (w : World) (D : Dl) : World := { w with heap := w.heap ++ D.objs, drawn := D.drawn }

theorem gr_of_below {w w' : World} (h : Below w.heap.size w w') : ∃ D, w' = w.gr D := by
  refine ⟨⟨w'.heap.extract w.heap.size w'.heap.size, w'.drawn⟩, ?_⟩
  obtain ⟨hp, tp, dr, os, ou⟩ := w'
  obtain ⟨h1, h2, h3, h4, h5⟩ := h
  simp only at h1 h2 h3 h4 h5
  subst h1 h2 h3
  unfold World.gr
  simp only [World.mk.injEq, and_true]
  apply Array.ext_getElem?
  intro i
  by_cases hi : i < w.heap.size
  · rw [h5 i hi, Array.getElem?_append_left hi]
  · rw [Array.getElem?_append_right (by omega)]
    simp only [Array.getElem?_extract]
    by_cases h6 : i < hp.size
    · rw [if_pos (by omega)]
      congr 1
      omega
    · rw [if_neg (by omega), Array.getElem?_eq_none (by omega)]
theorem below_gr (w : World) (D : Dl) : Below w.heap.size w (w.gr D) :=
  ⟨rfl, rfl, rfl, by simp [World.gr], fun k hk => by simp only [World.gr]; exact Array.getElem?_append_left hk⟩
theorem bel_gr {B : Nat} {a w : World} (h : Below B a w) (D : Dl) (hB : B ≤ w.heap.size := by omega) : Below B a (w.gr D) := h.trans ((below_gr w D).mono hB)

theorem size_gr (w : World) (D : Dl) : (w.gr D).heap.size = w.heap.size + D.k := by simp [World.gr, Dl.k]
theorem heap_gr (w : World) (D : Dl) (n : Nat) (hn : n < w.heap.size) : (w.gr D).heap[n]? = w.heap[n]? := (below_gr w D).block n hn
theorem cell_gr (w : World) (D : Dl) (n i : Nat) (hn : n < w.heap.size) : (w.gr D).cell? ⟨n, i, none⟩ = w.cell? ⟨n, i, none⟩ := (below_gr w D).cell (p := ⟨n, i, none⟩) hn
theorem frozen_gr (w : World) (D : Dl) (n i : Nat) (hn : n < w.heap.size) : (w.gr D).frozen? ⟨n, i, none⟩ = w.frozen? ⟨n, i, none⟩ := (below_gr w D).frozen (p := ⟨n, i, none⟩) hn
theorem setCell_gr (w : World) (D : Dl) (n i : Nat) (v : Value) (hn : n < w.heap.size) : (w.gr D).setCell ⟨n, i, none⟩ v = (w.setCell ⟨n, i, none⟩ v).gr D := by
  unfold World.setCell World.gr
  congr 1
  apply Array.ext_getElem?
  intro k
  simp only [Array.getElem?_modify, Array.getElem?_append, Array.size_modify]
  by_cases hk : n = k
  · subst hk
    simp [hn]
  · simp [hk]
theorem gr_drew (w : World) (D : Dl) : w.drew.gr D = w.gr D := rfl
theorem gr_drewN (w : World) (n : Nat) (D : Dl) : (w.drewN n).gr D = w.gr D := rfl
theorem lt_k (a b : Nat) (D : Dl) : (a < b + D.k) = (a < b ∨ (b ≤ a ∧ a - b < D.k)) := by simp; omega
theorem lt_kc (a b c : Nat) (D : Dl) : (a < b + D.k + c) = (a < b ∨ (b ≤ a ∧ a - b < D.k + c)) := by simp; omega
theorem le_k (a b : Nat) (D : Dl) : (a ≤ b + D.k) = (a ≤ b ∨ (b ≤ a ∧ a - b ≤ D.k)) := by simp; omega
theorem le_kc (a b c : Nat) (D : Dl) : (a ≤ b + D.k + c) = (a ≤ b ∨ (b ≤ a ∧ a - b ≤ D.k + c)) := by simp; omega
theorem sub_kc (b c d : Nat) : b + c + d - b = c + d := by omega
theorem drew_gr (w : World) (D : Dl) : (w.gr D).drew = w.gr ⟨D.objs, D.drawn + 1⟩ := rfl
theorem bg_al {w a : World} {o : Obj} (h : Below w.heap.size w a) : Below w.heap.size w (a.alloc o) := h.alloc h.size o
theorem bg_gr {w a : World} {D : Dl} (h : Below w.heap.size w a) : Below w.heap.size w (a.gr D) := h.trans ((below_gr a D).mono h.size)
theorem bg_dr {w a : World} (h : Below w.heap.size w a) : Below w.heap.size w a.drew := h.drew
theorem bg_drn {w a : World} {n : Nat} (h : Below w.heap.size w a) : Below w.heap.size w (a.drewN n) := bel_drewN h n
theorem below_heap {w w' : World} (h : Below w.heap.size w w') (n : Nat) (hn : n < w.heap.size) : w'.heap[n]? = w.heap[n]? := h.block n hn

/-- In W the blocks from n on are those that D brought. -/
def At (n : Nat) (D : Dl) (W : World) : Prop := n + D.k ≤ W.heap.size ∧ ∀ i, i < D.k → W.heap[n + i]? = D.objs[i]?
/-- the blocks that D brought -/
def Rg (n : Nat) (D : Dl) (k : Nat) : Prop := n ≤ k ∧ k < n + D.k
theorem at_base {X : World} {n : Nat} {D : Dl} (h : X.heap.size = n) : At n D (X.gr D) := by
  subst h
  refine ⟨by rw [size_gr]; omega, fun i hi => ?_⟩
  simp only [World.gr]
  rw [Array.getElem?_append_right (by omega)]
  congr 1
  omega
theorem at_of {n : Nat} {D : Dl} {W W' : World} (h : At n D W) (hs : W.heap.size ≤ W'.heap.size) (hb : ∀ k, Rg n D k → W'.heap[k]? = W.heap[k]?) : At n D W' :=
  ⟨Nat.le_trans h.1 hs, fun i hi => (hb _ ⟨by omega, by omega⟩).trans (h.2 i hi)⟩
theorem at_bel {n : Nat} {D : Dl} {W W' : World} (h : At n D W) (hb : Below W.heap.size W W') : At n D W' :=
  at_of h hb.size fun k hk => hb.block k (by have := h.1; have := hk.2; omega)
theorem at_al {n : Nat} {D : Dl} {W : World} {o : Obj} (h : At n D W) : At n D (W.alloc o) := at_bel h (bg_al (Below.refl _ _))
theorem at_gr {n : Nat} {D D' : Dl} {W : World} (h : At n D W) : At n D (W.gr D') := at_bel h (bg_gr (Below.refl _ _))
theorem at_dr {n : Nat} {D : Dl} {W : World} (h : At n D W) : At n D W.drew := h
theorem at_drn {n m : Nat} {D : Dl} {W : World} (h : At n D W) : At n D (W.drewN m) := h
theorem at_set {n : Nat} {D : Dl} {W : World} {p : Addr} {u : Value} (h : At n D W) (hp : ¬ Rg n D p.block) : At n D (W.setCell p u) :=
  at_of h (by simp [World.setCell]) fun k hk => Below.heap_setCell _ _ _ _ (fun e => hp (e ▸ hk))
theorem at_heap {w : World} {D : Dl} {W : World} (h : At w.heap.size D W) {k : Nat} (hk : Rg w.heap.size D k) : W.heap[k]? = (w.gr D).heap[k]? := by
  obtain ⟨i, rfl⟩ : ∃ i, k = w.heap.size + i := ⟨k - w.heap.size, by have := hk.1; omega⟩
  have hi : i < D.k := by have := hk.2; omega
  rw [h.2 i hi, (at_base (X := w) (D := D) rfl).2 i hi]
theorem own_agr {w W : World} {base : Nat} {e : TypeId} {size : Nat} {v : Value} {n : Nat} {xs : List Value} (h : w.ownsRow base e size v n xs) (hb : ∀ k, base ≤ k → k < w.heap.size → W.heap[k]? = w.heap[k]?) : W.ownsRow base e size v n xs := by
  refine ⟨h.1, ?_⟩
  rcases h.2 with hn | ⟨g, cap, cur, rfl, hbg, hg, rest⟩
  · exact .inl hn
  · exact .inr ⟨g, cap, cur, rfl, hbg, (hb g hbg (Array.getElem?_eq_some_iff.1 hg).1).trans hg, rest⟩
theorem own_at {w : World} {D : Dl} {e : TypeId} {size : Nat} {v : Value} {n : Nat} {xs : List Value} (h : (w.gr D).ownsRow w.heap.size e size v n xs) {W : World} (ha : At w.heap.size D W) : W.ownsRow w.heap.size e size v n xs :=
  own_agr h fun k h1 h2 => at_heap ha ⟨h1, by rwa [size_gr] at h2⟩
theorem ownB_at {w : World} {D : Dl} {v : Value} {l : List UInt8} (h : OwnB (w.gr D) w.heap.size v l) : ∀ W, At w.heap.size D W → OwnB W w.heap.size v l := fun _ ha => own_at h ha
def Dl.al (D : Dl) (o : Obj) : Dl := ⟨D.objs.push o, D.drawn⟩
theorem gr_al (W : World) (D : Dl) (o : Obj) : (W.gr D).alloc o = W.gr (D.al o) := by
  unfold World.alloc World.gr Dl.al
  simp
theorem at_pre {n : Nat} {D : Dl} {o : Obj} {W : World} (h : At n (D.al o) W) : At n D W ∧ W.heap[n + D.k]? = some o := by
  have hk : (D.al o).k = D.k + 1 := by simp [Dl.k, Dl.al]
  refine ⟨⟨by have := h.1; omega, fun i hi => ?_⟩, ?_⟩
  · rw [h.2 i (by omega)]
    simp only [Dl.al]
    exact Array.getElem?_push_lt hi |>.trans (by simp [Array.getElem?_eq_getElem hi])
  · rw [h.2 D.k (by omega)]
    simp [Dl.al, Dl.k]
theorem al_k (D : Dl) (o : Obj) : (D.al o).k = D.k + 1 := by simp [Dl.k, Dl.al]
def Dl.nil (w : World) : Dl := ⟨#[], w.drawn⟩
theorem gr_nil (w : World) : w.gr (Dl.nil w) = w := by simp [World.gr, Dl.nil]
theorem heap_new {W : World} {o : Obj} {g : Nat} (hg : W.heap.size = g) : (W.alloc o).heap[g]? = some o := by subst hg; exact heap_alloc_new W o
theorem with_world {P : Program} {c : Code} {Q : Exit → Act → World → Prop} {a : Act} {w : World} (h : ∀ W, W = w → c.wp P Q a W) : c.wp P Q a w := h w rfl
theorem cellB {W0 W : World} (h : Below W0.heap.size W0 W) : ∀ (b o : Nat), b < W0.heap.size → W.cell? ⟨b, o, none⟩ = W0.cell? ⟨b, o, none⟩ := fun b o hb => h.cell (p := ⟨b, o, none⟩) hb
end Go.Proofs.Ytcbglojjbgenlaa
