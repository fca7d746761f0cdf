/- A world that has grown: the worlds that a call leaves which writes nothing that was there, as a word that the walk can compute with. Generic: no program in sight. Appends to byte slices in a world that has grown. Rows that growths have brought: apart from one another; the call of Apart over a literal of them. Appends to literals in grown worlds, in any order: blocks by number. -/
import Derived.Test.YtcbglojjbgenlaaLib
import Derived.Test.YtcbglojjbgenlaaBasA
import Derived.Deep.DeepMust
import Derived.Lib.SmallJoins
namespace Go.Proofs.Ytcbglojjbgenlaa
open Go.RowKit

/-- What a world has grown by. -/
structure Dl where
  objs : Array Obj
  drawn : Nat
def Dl.k (D : Dl) : Nat := D.objs.size
/-- The world, grown. -/
def _root_.Go.World.gr (w : World) (D : Dl) : World := { w with heap := w.heap ++ D.objs, drawn := D.drawn }

theorem gr_of_below {w w' : World} (h : Below w.heap.size w w') : ∃ D, w' = w.gr D := by
  refine ⟨⟨w'.heap.extract w.heap.size w'.heap.size, w'.drawn⟩, ?_⟩
  obtain ⟨hp, tp, dr, os, ou⟩ := w'
  obtain ⟨h1, h2, h3, h4, h5⟩ := h
  simp only at h1 h2 h3 h4 h5
  subst h1 h2 h3
  unfold World.gr
  simp only [World.mk.injEq, and_true]
  apply Array.ext_getElem?
  intro i
  by_cases hi : i < w.heap.size
  · rw [h5 i hi, Array.getElem?_append_left hi]
  · rw [Array.getElem?_append_right (by omega)]
    simp only [Array.getElem?_extract]
    by_cases h6 : i < hp.size
    · rw [if_pos (by omega)]
      congr 1
      omega
    · rw [if_neg (by omega), Array.getElem?_eq_none (by omega)]
theorem below_gr (w : World) (D : Dl) : Below w.heap.size w (w.gr D) :=
  ⟨rfl, rfl, rfl, by simp [World.gr], fun k hk => by simp only [World.gr]; exact Array.getElem?_append_left hk⟩
theorem bel_gr {B : Nat} {a w : World} (h : Below B a w) (D : Dl) (hB : B ≤ w.heap.size := by omega) : Below B a (w.gr D) := h.trans ((below_gr w D).mono hB)

theorem size_gr (w : World) (D : Dl) : (w.gr D).heap.size = w.heap.size + D.k := by simp [World.gr, Dl.k]
theorem heap_gr (w : World) (D : Dl) (n : Nat) (hn : n < w.heap.size) : (w.gr D).heap[n]? = w.heap[n]? := (below_gr w D).block n hn
theorem cell_gr (w : World) (D : Dl) (n i : Nat) (hn : n < w.heap.size) : (w.gr D).cell? ⟨n, i, none⟩ = w.cell? ⟨n, i, none⟩ := (below_gr w D).cell (p := ⟨n, i, none⟩) hn
theorem frozen_gr (w : World) (D : Dl) (n i : Nat) (hn : n < w.heap.size) : (w.gr D).frozen? ⟨n, i, none⟩ = w.frozen? ⟨n, i, none⟩ := (below_gr w D).frozen (p := ⟨n, i, none⟩) hn
theorem setCell_gr (w : World) (D : Dl) (n i : Nat) (v : Value) (hn : n < w.heap.size) : (w.gr D).setCell ⟨n, i, none⟩ v = (w.setCell ⟨n, i, none⟩ v).gr D := by
  unfold World.setCell World.gr
  congr 1
  apply Array.ext_getElem?
  intro k
  simp only [Array.getElem?_modify, Array.getElem?_append, Array.size_modify]
  by_cases hk : n = k
  · subst hk
    simp [hn]
  · simp [hk]
theorem gr_drew (w : World) (D : Dl) : w.drew.gr D = w.gr D := rfl
theorem gr_drewN (w : World) (n : Nat) (D : Dl) : (w.drewN n).gr D = w.gr D := rfl
theorem lt_k (a b : Nat) (D : Dl) : (a < b + D.k) = (a < b ∨ (b ≤ a ∧ a - b < D.k)) := by simp; omega
theorem lt_kc (a b c : Nat) (D : Dl) : (a < b + D.k + c) = (a < b ∨ (b ≤ a ∧ a - b < D.k + c)) := by simp; omega
theorem le_k (a b : Nat) (D : Dl) : (a ≤ b + D.k) = (a ≤ b ∨ (b ≤ a ∧ a - b ≤ D.k)) := by simp; omega
theorem le_kc (a b c : Nat) (D : Dl) : (a ≤ b + D.k + c) = (a ≤ b ∨ (b ≤ a ∧ a - b ≤ D.k + c)) := by simp; omega
theorem sub_kc (b c d : Nat) : b + c + d - b = c + d := by omega
theorem drew_gr (w : World) (D : Dl) : (w.gr D).drew = w.gr ⟨D.objs, D.drawn + 1⟩ := rfl
theorem bg_al {w a : World} {o : Obj} (h : Below w.heap.size w a) : Below w.heap.size w (a.alloc o) := h.alloc h.size o
theorem bg_gr {w a : World} {D : Dl} (h : Below w.heap.size w a) : Below w.heap.size w (a.gr D) := h.trans ((below_gr a D).mono h.size)
theorem bg_dr {w a : World} (h : Below w.heap.size w a) : Below w.heap.size w a.drew := h.drew
theorem bg_drn {w a : World} {n : Nat} (h : Below w.heap.size w a) : Below w.heap.size w (a.drewN n) := bel_drewN h n
theorem below_heap {w w' : World} (h : Below w.heap.size w w') (n : Nat) (hn : n < w.heap.size) : w'.heap[n]? = w.heap[n]? := h.block n hn

/-- In W the blocks from n on are those that D brought. -/
def At (n : Nat) (D : Dl) (W : World) : Prop := n + D.k ≤ W.heap.size ∧ ∀ i, i < D.k → W.heap[n + i]? = D.objs[i]?
/-- the blocks that D brought -/
def Rg (n : Nat) (D : Dl) (k : Nat) : Prop := n ≤ k ∧ k < n + D.k
theorem at_base {X : World} {n : Nat} {D : Dl} (h : X.heap.size = n) : At n D (X.gr D) := by
  subst h
  refine ⟨by rw [size_gr]; omega, fun i hi => ?_⟩
  simp only [World.gr]
  rw [Array.getElem?_append_right (by omega)]
  congr 1
  omega
theorem at_of {n : Nat} {D : Dl} {W W' : World} (h : At n D W) (hs : W.heap.size ≤ W'.heap.size) (hb : ∀ k, Rg n D k → W'.heap[k]? = W.heap[k]?) : At n D W' :=
  ⟨Nat.le_trans h.1 hs, fun i hi => (hb _ ⟨by omega, by omega⟩).trans (h.2 i hi)⟩
theorem at_bel {n : Nat} {D : Dl} {W W' : World} (h : At n D W) (hb : Below W.heap.size W W') : At n D W' :=
  at_of h hb.size fun k hk => hb.block k (by have := h.1; have := hk.2; omega)
theorem at_al {n : Nat} {D : Dl} {W : World} {o : Obj} (h : At n D W) : At n D (W.alloc o) := at_bel h (bg_al (Below.refl _ _))
theorem at_gr {n : Nat} {D D' : Dl} {W : World} (h : At n D W) : At n D (W.gr D') := at_bel h (bg_gr (Below.refl _ _))
theorem at_dr {n : Nat} {D : Dl} {W : World} (h : At n D W) : At n D W.drew := h
theorem at_drn {n m : Nat} {D : Dl} {W : World} (h : At n D W) : At n D (W.drewN m) := h
theorem at_set {n : Nat} {D : Dl} {W : World} {p : Addr} {u : Value} (h : At n D W) (hp : ¬ Rg n D p.block) : At n D (W.setCell p u) :=
  at_of h (by simp [World.setCell]) fun k hk => Below.heap_setCell _ _ _ _ (fun e => hp (e ▸ hk))
theorem at_heap {w : World} {D : Dl} {W : World} (h : At w.heap.size D W) {k : Nat} (hk : Rg w.heap.size D k) : W.heap[k]? = (w.gr D).heap[k]? := by
  obtain ⟨i, rfl⟩ : ∃ i, k = w.heap.size + i := ⟨k - w.heap.size, by have := hk.1; omega⟩
  have hi : i < D.k := by have := hk.2; omega
  rw [h.2 i hi, (at_base (X := w) (D := D) rfl).2 i hi]
theorem own_agr {w W : World} {base : Nat} {e : TypeId} {size : Nat} {v : Value} {n : Nat} {xs : List Value} (h : w.ownsRow base e size v n xs) (hb : ∀ k, base ≤ k → k < w.heap.size → W.heap[k]? = w.heap[k]?) : W.ownsRow base e size v n xs := by
  refine ⟨h.1, ?_⟩
  rcases h.2 with hn | ⟨g, cap, cur, rfl, hbg, hg, rest⟩
  · exact .inl hn
  · exact .inr ⟨g, cap, cur, rfl, hbg, (hb g hbg (Array.getElem?_eq_some_iff.1 hg).1).trans hg, rest⟩
theorem own_at {w : World} {D : Dl} {e : TypeId} {size : Nat} {v : Value} {n : Nat} {xs : List Value} (h : (w.gr D).ownsRow w.heap.size e size v n xs) {W : World} (ha : At w.heap.size D W) : W.ownsRow w.heap.size e size v n xs :=
  own_agr h fun k h1 h2 => at_heap ha ⟨h1, by rwa [size_gr] at h2⟩
theorem ownB_at {w : World} {D : Dl} {v : Value} {l : List UInt8} (h : OwnB (w.gr D) w.heap.size v l) : ∀ W, At w.heap.size D W → OwnB W w.heap.size v l := fun _ ha => own_at h ha
def Dl.al (D : Dl) (o : Obj) : Dl := ⟨D.objs.push o, D.drawn⟩
theorem gr_al (W : World) (D : Dl) (o : Obj) : (W.gr D).alloc o = W.gr (D.al o) := by
  unfold World.alloc World.gr Dl.al
  simp
theorem at_pre {n : Nat} {D : Dl} {o : Obj} {W : World} (h : At n (D.al o) W) : At n D W ∧ W.heap[n + D.k]? = some o := by
  have hk : (D.al o).k = D.k + 1 := by simp [Dl.k, Dl.al]
  refine ⟨⟨by have := h.1; omega, fun i hi => ?_⟩, ?_⟩
  · rw [h.2 i (by omega)]
    simp only [Dl.al]
    exact Array.getElem?_push_lt hi |>.trans (by simp [Array.getElem?_eq_getElem hi])
  · rw [h.2 D.k (by omega)]
    simp [Dl.al, Dl.k]
theorem al_k (D : Dl) (o : Obj) : (D.al o).k = D.k + 1 := by simp [Dl.k, Dl.al]
def Dl.nil (w : World) : Dl := ⟨#[], w.drawn⟩
theorem gr_nil (w : World) : w.gr (Dl.nil w) = w := by simp [World.gr, Dl.nil]
theorem heap_new {W : World} {o : Obj} {g : Nat} (hg : W.heap.size = g) : (W.alloc o).heap[g]? = some o := by subst hg; exact heap_alloc_new W o
theorem with_world {P : Program} {c : Code} {Q : Exit → Act → World → Prop} {a : Act} {w : World} (h : ∀ W, W = w → c.wp P Q a W) : c.wp P Q a w := h w rfl
theorem cellB {W0 W : World} (h : Below W0.heap.size W0 W) : ∀ (b o : Nat), b < W0.heap.size → W.cell? ⟨b, o, none⟩ = W0.cell? ⟨b, o, none⟩ := fun b o hb => h.cell (p := ⟨b, o, none⟩) hb
end Go.Proofs.Ytcbglojjbgenlaa
namespace Go.Proofs.Ytcbglojjbgenlaa
open Go.RowKit
/-- append onto a literal that has just been laid: the literal's block is forgotten -/
theorem ap_new {W : World} {ops : Array Oper} {rest : List Oper} {o : Oper} {a : Act} {Q : Exit → Act → World → Prop} {s x : Operand} {t : TypeId} {cs : Array Value}
    (l0 l1 l : List UInt8) (n : Nat) (hll : l0 ++ l1 = l) (hln : l.length = n) (hgd : o.guard = none) (ho : o.op = .call { callee := .builtin .append, args := #[s, x], argTypes := #[t, t] }) (ht : t = 29) {te : TypeId} (hte : te = 5)
    {g k c0 : Nat} (hs : a.eval s = .slice (some ⟨g, 0, none⟩) k c0) (hg : W.heap.size = g) (hcs : cs.toList = l0.map bv) (hk : l0.length = k) (hc0 : c0 = k) {xv : Value} (hxv : a.eval x = xv) (hx : SB (W.alloc (.cells cs te)) xv l1) (hl : l0.length + l1.length ≤ 140737488355328)
    (h : ∀ D A c, (∀ W', At W.heap.size D W' → OwnB W' W.heap.size (.slice A n c) l) → n ≤ c → c ≤ 9223372036854775807 → wpList Try.prog ops Q rest (a.put o.dst (.slice A n c)) (W.gr D)) :
    wpList Try.prog ops Q (o :: rest) a (W.alloc (.cells cs te)) := by
  subst ht hte hc0 hll hln
  have hsz : cs.size = l0.length * 1 := by rw [← Array.length_toList, hcs]; simp
  refine wpList_ap (base := W.heap.size) bytesT hgd ho hs (by subst hg hk; exact own_lit W cs 5 (n := l0.length) (Nat.le_refl _) (by unfold maxLen; omega) hsz) hxv hx.src (bv_one l1) (by unfold maxLen; omega) (by omega) (by simp) ?_
  intro v' w' hap
  rw [hcs, ← List.map_append] at hap
  obtain ⟨D, rfl⟩ := gr_of_below (ap_below (B := W.heap.size) (bg_al (Below.refl _ _)) hap (by simp) (fun k hk => by simp [Value.ownBlock] at hk; omega))
  have hO : OwnB (W.gr D) W.heap.size v' (l0 ++ l1) := OwnB.of hap.1 rfl
  obtain ⟨A, c, rfl, _, h1, h2, _⟩ := hO.form
  exact h D A c (ownB_at hO) h1 (by unfold maxLen at h2; omega)
/-- append onto a row that the last growth has brought -/
theorem ap_own {W : World} {D0 : Dl} {ops : Array Oper} {rest : List Oper} {o : Oper} {a : Act} {Q : Exit → Act → World → Prop} {s x : Operand} {t : TypeId}
    (l0 l1 l : List UInt8) (n : Nat) (hll : l0 ++ l1 = l) (hln : l.length = n) (hgd : o.guard = none) (ho : o.op = .call { callee := .builtin .append, args := #[s, x], argTypes := #[t, t] }) (ht : t = 29)
    {v : Value} (hs : a.eval s = v) (hv : OwnB (W.gr D0) W.heap.size v l0) {xv : Value} (hxv : a.eval x = xv) (hx : SB (W.gr D0) xv l1) (hl : l0.length + l1.length ≤ 140737488355328)
    (h : ∀ D A c, (∀ W', At W.heap.size D W' → OwnB W' W.heap.size (.slice A n c) l) → n ≤ c → c ≤ 9223372036854775807 → wpList Try.prog ops Q rest (a.put o.dst (.slice A n c)) (W.gr D)) :
    wpList Try.prog ops Q (o :: rest) a (W.gr D0) := by
  subst ht hll hln
  refine wpList_ap (base := W.heap.size) bytesT hgd ho hs hv hxv hx.src (bv_one l1) (by unfold maxLen; omega) (by omega) (by rw [size_gr]; omega) ?_
  intro v' w' hap
  rw [← List.map_append] at hap
  obtain ⟨D, rfl⟩ := gr_of_below (ap_below (B := W.heap.size) (below_gr W D0) hap (by rw [size_gr]; omega) (own_ge hv))
  have hO : OwnB (W.gr D) W.heap.size v' (l0 ++ l1) := OwnB.of hap.1 rfl
  obtain ⟨A, c, rfl, _, h1, h2, _⟩ := hO.form
  exact h D A c (ownB_at hO) h1 (by unfold maxLen at h2; omega)
theorem st_own {W : World} {D0 : Dl} {ops : Array Oper} {o : Oper} {a : Act} {K : Act → World → Prop} {Q : Exit → Act → World → Prop} {E : Prop} {s x : Operand} {t : TypeId}
    (l0 l1 l : List UInt8) (n : Nat) (hll : l0 ++ l1 = l) (hln : l.length = n) (hgd : o.guard = none) (ho : o.op = .call { callee := .builtin .append, args := #[s, x], argTypes := #[t, t] }) (ht : t = 29)
    {v : Value} (hs : a.eval s = v) (hv : OwnB (W.gr D0) W.heap.size v l0) {xv : Value} (hxv : a.eval x = xv) (hx : SB (W.gr D0) xv l1) (hl : l0.length + l1.length ≤ 140737488355328)
    (h : ∀ D A c, (∀ W', At W.heap.size D W' → OwnB W' W.heap.size (.slice A n c) l) → n ≤ c → c ≤ 9223372036854775807 → K (a.put o.dst (.slice A n c)) (W.gr D)) :
    if Region.wanted o (yielded ops a.tmps) = true then Oper.wp Try.prog o a (W.gr D0) K Q else E := by
  subst ht hll hln
  refine step_ap (base := W.heap.size) bytesT hgd ho hs hv hxv hx.src (bv_one l1) (by unfold maxLen; omega) (by omega) (by rw [size_gr]; omega) ?_
  intro v' w' hap
  rw [← List.map_append] at hap
  obtain ⟨D, rfl⟩ := gr_of_below (ap_below (B := W.heap.size) (below_gr W D0) hap (by rw [size_gr]; omega) (own_ge hv))
  have hO : OwnB (W.gr D) W.heap.size v' (l0 ++ l1) := OwnB.of hap.1 rfl
  obtain ⟨A, c, rfl, _, h1, h2, _⟩ := hO.form
  exact h D A c (ownB_at hO) h1 (by unfold maxLen at h2; omega)
theorem st_any {Y W0 : World} {ops : Array Oper} {o : Oper} {a : Act} {K : Act → World → Prop} {Q : Exit → Act → World → Prop} {E : Prop} {s x : Operand} {t : TypeId} {base : Nat}
    (l0 l1 l : List UInt8) (n : Nat) (hll : l0 ++ l1 = l) (hln : l.length = n) (hgd : o.guard = none) (ho : o.op = .call { callee := .builtin .append, args := #[s, x], argTypes := #[t, t] }) (ht : t = 29)
    {v : Value} (hs : a.eval s = v) (hv : OwnB Y base v l0) {xv : Value} (hxv : a.eval x = xv) (hx : SB Y xv l1) (hl : l0.length + l1.length ≤ 140737488355328) (hbase : W0.heap.size ≤ base) (hB : Below W0.heap.size W0 Y) (hby : base ≤ Y.heap.size)
    (h : ∀ w' A c, OwnB w' base (.slice A n c) l → Below W0.heap.size W0 w' → (∀ b o u, Y.cell? ⟨b, o, none⟩ = some u → v.ownBlock ≠ some b → w'.cell? ⟨b, o, none⟩ = some u) → K (a.put o.dst (.slice A n c)) w') :
    if Region.wanted o (yielded ops a.tmps) = true then Oper.wp Try.prog o a Y K Q else E := by
  subst ht hll hln
  refine step_ap (base := base) bytesT hgd ho hs hv hxv hx.src (bv_one l1) (by unfold maxLen; omega) (by omega) hby ?_
  intro v' w' hap
  rw [← List.map_append] at hap
  have hO : OwnB w' base v' (l0 ++ l1) := OwnB.of hap.1 rfl
  obtain ⟨A, c, rfl, _⟩ := hO.form
  exact h w' A c hO (ap_below hB hap hB.size (fun k hk => Nat.le_trans hbase (own_ge hv k hk))) (fun b o u hc hne => ap_cell hap (fun g hg e => hne (hg.trans (congrArg some e))) hc)
theorem convS {w : World} {v : Value} {l : List UInt8} (h : SB w v l) : (convert 29 9 v).run Try.prog w = .ok (.string ⟨l.toArray⟩) w := by
  obtain ⟨A, c, rfl, h, -⟩ := h
  cases A with
  | none =>
    have hn : l = [] := by
      cases l with
      | nil => rfl
      | cons a r => obtain ⟨b, off, e, _⟩ := h 0 (by simp); cases e
    subst hn
    rw [run_convert_bytes_string w 29 9 5 none _ c Try.underlying29 Try.underlying5 Try.underlying9]
    rfl
  | some a =>
    refine run_convert_bytes_back (P := Try.prog) w 29 9 5 a c l Try.underlying29 Try.underlying5 Try.underlying9 (fun j hj => ?_)
    obtain ⟨b, off, e, hc⟩ := h j hj
    injection e with e
    subst e
    rw [addr_add]
    exact hc
theorem wpList_conv {w : World} {ops : Array Oper} {rest : List Oper} {o : Oper} {a : Act} {Q : Exit → Act → World → Prop} {x : Operand} {t s : TypeId}
    (hgd : o.guard = none) (ho : o.op = .convert t s x) (ht : t = 29) (hs : s = 9) {v : Value} (hx : a.eval x = v) {l : List UInt8} (h : SB w v l) (hk : wpList Try.prog ops Q rest (a.put o.dst (.string ⟨l.toArray⟩)) w) :
    wpList Try.prog ops Q (o :: rest) a w :=
  wpList_plain hgd fun K hK => by
    subst ht hs
    unfold Oper.wp execOp
    simp only [ho, hx, Sem.run_bind, convS h, Result.andThen_ok, Sem.run_pure]
    exact hK _ _ hk
theorem own_lit0 {X : World} {g n base : Nat} {cs : Array Value} {l : List UInt8} (hg : X.heap.size = g) (hcs : cs.toList = l.map bv) (hn : l.length = n) (hm : n ≤ 1099511627776) (hb : base ≤ X.heap.size) : OwnB (X.alloc (.cells cs 5)) base (.slice (some ⟨g, 0, none⟩) n n) l := by
  subst hg hn
  have hsz : cs.size = l.length * 1 := by rw [← Array.length_toList, hcs]; simp
  exact OwnB.of (l := l) (own_lit X cs 5 (size := 1) (n := l.length) hb (by unfold maxLen; omega) hsz) hcs
theorem sb_lit {X : World} {g n : Nat} {cs : Array Value} {l : List UInt8} {e : TypeId} {fr : Nat × Nat} (hg : X.heap.size = g) (hcs : cs.toList = l.map bv) (hn : l.length = n) (hm : n ≤ 1099511627776) : SB (X.alloc (.cells cs e fr)) (.slice (some ⟨g, 0, none⟩) n n) l := by
  subst hg hn
  refine ⟨_, _, rfl, fun k hk => ⟨_, 0, rfl, ?_⟩, Nat.le_refl _, by unfold maxLen; omega, fun e => by cases e⟩
  rw [cell_of_row _ X.heap.size (0 + k) _ _ _ (heap_alloc_new X _), Nat.zero_add, ← Array.getElem?_toList, hcs, List.getElem?_map, List.getElem?_eq_getElem hk]
  rfl
theorem conv_const (w : World) (C : Array Value) (n c g : Nat) (hg : g = w.heap.size) : (convert 29 29 (.slice (some ⟨g, 0, none⟩) n c)).run Try.prog (w.alloc (.cells C 5)) = .ok (.slice (some ⟨g, 0, none⟩) n c) (w.alloc (.cells C 5 (C.size, C.size + 1))) :=
  Joins.run_convert_bytes_const_at (P := Try.prog) w 29 5 C n c g hg Try.underlying29 Try.underlying5
/-- append onto an own row anywhere: all other cells are as they were -/
theorem ap_any {Y W0 : World} {ops : Array Oper} {rest : List Oper} {o : Oper} {a : Act} {Q : Exit → Act → World → Prop} {s x : Operand} {t : TypeId} {base : Nat}
    (l0 l1 l : List UInt8) (n : Nat) (hll : l0 ++ l1 = l) (hln : l.length = n) (hgd : o.guard = none) (ho : o.op = .call { callee := .builtin .append, args := #[s, x], argTypes := #[t, t] }) (ht : t = 29)
    {v : Value} (hs : a.eval s = v) (hv : OwnB Y base v l0) {xv : Value} (hxv : a.eval x = xv) (hx : SB Y xv l1) (hl : l0.length + l1.length ≤ 140737488355328) (hbase : W0.heap.size ≤ base) (hB : Below W0.heap.size W0 Y) (hby : base ≤ Y.heap.size)
    (h : ∀ w' A c, OwnB w' base (.slice A n c) l → Below W0.heap.size W0 w' → (∀ b o u, Y.cell? ⟨b, o, none⟩ = some u → v.ownBlock ≠ some b → w'.cell? ⟨b, o, none⟩ = some u) → wpList Try.prog ops Q rest (a.put o.dst (.slice A n c)) w') :
    wpList Try.prog ops Q (o :: rest) a Y := by
  subst ht hll hln
  refine wpList_ap (base := base) bytesT hgd ho hs hv hxv hx.src (bv_one l1) (by unfold maxLen; omega) (by omega) hby ?_
  intro v' w' hap
  rw [← List.map_append] at hap
  have hO : OwnB w' base v' (l0 ++ l1) := OwnB.of hap.1 rfl
  obtain ⟨A, c, rfl, _⟩ := hO.form
  exact h w' A c hO (ap_below hB hap hB.size (fun k hk => Nat.le_trans hbase (own_ge hv k hk))) (fun b o u hc hne => ap_cell hap (fun g hg e => hne (hg.trans (congrArg some e))) hc)
def zeros (n : Nat) : List UInt8 := List.replicate n 0
theorem zeros_len (n : Nat) : (zeros n).length = n := by simp [zeros]
/-- what make lays for n bytes -/
def zObj (n : Nat) : Obj := .cells (madeCells (Value.int .u8 0).cells (n * 1)) 5
theorem made_u8 (n : Nat) : (madeCells (Value.int .u8 0).cells (n * 1)).toList = (zeros n).map bv := by
  rw [Nat.mul_one]
  refine (toList_madeCells_one _ n).trans ?_
  simp [zeros, bv]
theorem make_z (n : Nat) (hn : n ≤ 1099511627776) (w : World) : (Instr.makeSlice 29 (.int .i64 (n : Int)) (.int .i64 (n : Int))).run Try.prog w = .ok (.slice (some ⟨w.heap.size, 0, none⟩) n n) (w.alloc (zObj n)) := by
  obtain ⟨i, hi, hz, hs, hby⟩ := info_parts bytesT.info
  have := run_make (P := Try.prog) w 29 5 i _ bytesT.und hi hz .i64 .i64 (n : Int) (n : Int) (by omega) (Int.le_refl _) (by rw [hby]; omega) (by omega)
  rw [hs] at this
  exact this
theorem own_z (w : World) (n : Nat) (hn : n ≤ 1099511627776) {g : Nat} (hg : w.heap.size = g) : OwnB (w.alloc (zObj n)) g (.slice (some ⟨g, 0, none⟩) n n) (zeros n) := by
  subst hg
  refine OwnB.of (own_lit w _ 5 (n := n) (size := 1) (Nat.le_refl _) (by unfold maxLen; omega) ?_) (made_u8 n)
  have := congrArg List.length (made_u8 n)
  simpa [zeros] using this
end Go.Proofs.Ytcbglojjbgenlaa
namespace Go.Proofs.Ytcbglojjbgenlaa
open Go.RowKit

/-- The bytes l in a row that the growth D brought. -/
structure OwnG (n : Nat) (D : Dl) (v : Value) (l : List UInt8) : Prop where
  own : ∀ W, At n D W → OwnB W n v l
  rg : ∀ g, v.ownBlock = some g → n ≤ g ∧ g < n + D.k
theorem ownG {w : World} {D : Dl} {v : Value} {l : List UInt8} (h : OwnB (w.gr D) w.heap.size v l) : OwnG w.heap.size D v l :=
  ⟨ownB_at h, fun g hg => by have := h.lt g hg; rw [size_gr] at this; exact this⟩
/-- The blocks of the values rise from lo on. -/
def Rising : List Value → Nat → Prop
  | [], _ => True
  | v :: r, lo => ∃ a b, lo ≤ a ∧ a ≤ b ∧ (∀ g, v.ownBlock = some g → a ≤ g ∧ g < b) ∧ Rising r b
theorem Rising.ge : ∀ (vs : List Value) (lo : Nat), Rising vs lo → ∀ v ∈ vs, ∀ g, v.ownBlock = some g → lo ≤ g
  | [], _, _ => fun v hv => by simp at hv
  | u :: r, lo, ⟨a, b, h1, h2, h3, h4⟩ => fun v hv g hg => by
    rcases List.mem_cons.1 hv with rfl | hv
    · have := (h3 g hg).1; omega
    · have := Rising.ge r b h4 v hv g hg; omega
theorem Rising.dist : ∀ (vs : List Value) (lo : Nat), Rising vs lo → Dist vs
  | [], _, _ => fun i j hi => by simp at hi
  | u :: r, lo, ⟨a, b, h1, h2, h3, h4⟩ => fun i j hi hj hij g hg hg' => by
    have hd := Rising.dist r b h4
    have hge := Rising.ge r b h4
    match i, j, hi, hj with
    | 0, 0, _, _ => exact hij rfl
    | 0, j + 1, _, hj =>
      have h5 := (h3 g hg).2
      have h6 := hge _ (List.getElem_mem (by simpa using hj)) g hg'
      omega
    | i + 1, 0, hi, _ =>
      have h5 := (h3 g hg').2
      have h6 := hge _ (List.getElem_mem (by simpa using hi)) g hg
      omega
    | i + 1, j + 1, hi, hj => exact hd i j (by simpa using hi) (by simpa using hj) (by omega) g hg hg'
/-- values with the ranges in which their blocks lie -/
def InR (l : List (Value × Nat × Nat)) : Prop := ∀ x ∈ l, ∀ g, x.1.ownBlock = some g → x.2.1 ≤ g ∧ g < x.2.2
theorem InR.nil : InR [] := fun x hx => by simp at hx
theorem InR.cons {v : Value} {a b : Nat} {l : List (Value × Nat × Nat)} (h : ∀ g, v.ownBlock = some g → a ≤ g ∧ g < b) (hl : InR l) : InR ((v, a, b) :: l) := fun x hx => by
  rcases List.mem_cons.1 hx with rfl | hx
  · exact h
  · exact hl x hx
theorem dist_of : ∀ {l : List (Value × Nat × Nat)}, InR l → l.Pairwise (fun x y => x.2.2 ≤ y.2.1 ∨ y.2.2 ≤ x.2.1) → Dist (l.map (·.1))
  | [], _, _ => fun i j hi => by simp at hi
  | u :: r, h, hp => fun i j hi hj hij g hg hg' => by
    obtain ⟨h1, h2⟩ := List.pairwise_cons.1 hp
    have hd := dist_of (l := r) (fun x hx => h x (List.mem_cons_of_mem _ hx)) h2
    have hu := h u (by simp)
    match i, j, hi, hj with
    | 0, 0, _, _ => exact hij rfl
    | 0, j + 1, _, hj =>
      have hj' : j < r.length := by simpa using hj
      have h3 := h r[j] (List.mem_cons_of_mem _ (List.getElem_mem _)) g (by simpa using hg')
      have h4 := h1 r[j] (List.getElem_mem _)
      have h5 := hu g (by simpa using hg)
      omega
    | i + 1, 0, hi, _ =>
      have hi' : i < r.length := by simpa using hi
      have h3 := h r[i] (List.mem_cons_of_mem _ (List.getElem_mem _)) g (by simpa using hg)
      have h4 := h1 r[i] (List.getElem_mem _)
      have h5 := hu g (by simpa using hg')
      omega
    | i + 1, j + 1, hi, hj => exact hd i j (by simpa using hi) (by simpa using hj) (by omega) g (by simpa using hg) (by simpa using hg')
theorem inS_of {l : List (Value × Nat × Nat)} (h : InR l) {k : Nat} (hk : InS (l.map (·.1)) k) : ∃ x ∈ l, x.2.1 ≤ k ∧ k < x.2.2 := by
  obtain ⟨i, hi, hb⟩ := hk
  have hi' : i < l.length := by simpa using hi
  exact ⟨l[i], List.getElem_mem _, h l[i] (List.getElem_mem _) k (by simpa using hb)⟩
end Go.Proofs.Ytcbglojjbgenlaa
namespace Go.Proofs.Ytcbglojjbgenlaa
open Go.RowKit

theorem blk_new {W : World} {o : Obj} {g : Nat} (hg : W.heap.size = g) : (W.alloc o).heap[g]? = some o := heap_new hg
theorem blk_al {W : World} {o : Obj} {g : Nat} {r : Option Obj} (hg : g < W.heap.size) (h : W.heap[g]? = r) : (W.alloc o).heap[g]? = r := (Below.heap_alloc W o g hg).trans h
theorem blk_gr {W : World} {D : Dl} {g : Nat} {r : Option Obj} (hg : g < W.heap.size) (h : W.heap[g]? = r) : (W.gr D).heap[g]? = r := (heap_gr W D g hg).trans h
theorem blk_dr {W : World} {g : Nat} {r : Option Obj} (h : W.heap[g]? = r) : W.drew.heap[g]? = r := h
theorem blk_drn {W : World} {n g : Nat} {r : Option Obj} (h : W.heap[g]? = r) : (W.drewN n).heap[g]? = r := h

theorem own_e {Y : World} {g base : Nat} (h : Y.heap[g]? = some (.cells #[] 5)) (hb : base ≤ g) : OwnB Y base (.slice (some ⟨g, 0, none⟩) 0 0) [] :=
  ⟨by simp, .inr ⟨g, 0, #[], rfl, hb, h, Nat.le_refl _, by simp [maxLen], by simp, by simp⟩⟩

theorem ap_e_grows {Y w' : World} {g base n : Nat} {v' : Value} {xs : List Value} (hap : Appended Y base 5 1 (.slice (some ⟨g, 0, none⟩) 0 0) n xs w' v') (hg : g < Y.heap.size) (hf : Y.heap[g]? = some (.cells #[] 5)) :
    Below Y.heap.size Y w' ∧ (∀ k, v'.ownBlock = some k → k = g ∨ (Y.heap.size ≤ k ∧ k < w'.heap.size)) := by
  rcases hap.2.2 with ⟨h1, h2⟩ | ⟨h1, h2⟩
  · have hgr := hap.2.1
    have hcap : slCap v' = 0 := h2
    refine ⟨⟨hgr.os, hgr.tape, hgr.output, hgr.size, fun k hk => ?_⟩, fun k hk => .inl ?_⟩
    · by_cases e : k = g
      · subst e
        rcases hap.1.2 with ⟨rfl, _⟩ | ⟨g', cap, cur, rfl, _, hh, hn, _, hs, _⟩
        · simp [Value.ownBlock] at h1
        · simp [Value.ownBlock] at h1
          simp [slCap] at hcap
          subst h1 hcap
          rw [hh, hf]
          have : cur = #[] := by cases cur; simp at hs; subst hs; rfl
          rw [this]
      · exact hgr.block k hk (by simp [Value.ownBlock]; exact fun h => e h)
    · rw [h1] at hk
      simpa [Value.ownBlock] using hk.symm
  · exact ⟨h2, fun k hk => by rw [h1] at hk; injection hk with hk; have := (hap.1.lt k (by rw [h1, hk])).2; exact .inr ⟨by omega, this⟩⟩

theorem step_apW {P : Program} {w : World} {ops : Array Oper} {o : Oper} {a : Act} {K : Act → World → Prop} {Q : Exit → Act → World → Prop} {E : Prop} {s x : Operand} {t : TypeId}
    {e : TypeId} {z : Value} {size bytes : Nat} (hT : SlT P t e z size bytes) (hw : Region.wanted o (yielded ops a.tmps) = true)
    (ho : o.op = .call { callee := .builtin .append, args := #[s, x], argTypes := #[t, t] })
    {base : Nat} {v : Value} {n : Nat} {xs : List Value} (hs : a.eval s = v) (hown : w.ownsRow base e size v n xs) {xv : Value} {m : Nat} {news : List Value} (hxv : a.eval x = xv) (hx : Src w size xv m news) (h1 : ∀ u ∈ news, u.oneCell' = true)
    (h63 : n + m ≤ maxLen) (hbytes : (n + m) * bytes ≤ 140737488355328) (hbase : base ≤ w.heap.size)
    (h : ∀ v' w', Appended w base e size v (n + m) (xs ++ news) w' v' → K (a.put o.dst v') w') :
    if Region.wanted o (yielded ops a.tmps) = true then Oper.wp P o a w K Q else E := by
  rw [if_pos hw]
  exact wp_ap hT ho hs hown hxv hx h1 h63 hbytes hbase h

/-- st_e and st_any for an operation that is guarded -/
theorem st_eW {Y : World} {ops : Array Oper} {o : Oper} {a : Act} {K : Act → World → Prop} {Q : Exit → Act → World → Prop} {E : Prop} {s x : Operand} {t : TypeId} (base : Nat)
    (l : List UInt8) (n : Nat) (hln : l.length = n) (hw : Region.wanted o (yielded ops a.tmps) = true) (ho : o.op = .call { callee := .builtin .append, args := #[s, x], argTypes := #[t, t] }) (ht : t = 29)
    {g : Nat} (hs : a.eval s = .slice (some ⟨g, 0, none⟩) 0 0) (hv : Y.heap[g]? = some (.cells #[] 5)) (hbg : base ≤ g) {xv : Value} (hxv : a.eval x = xv) (hx : SB Y xv l) (hl : l.length ≤ 140737488355328)
    (h : ∀ D A c, OwnB (Y.gr D) base (.slice A n c) l → (∀ k, (Value.slice A n c).ownBlock = some k → k = g ∨ (Y.heap.size ≤ k ∧ k < Y.heap.size + D.k)) → n ≤ c → c ≤ 9223372036854775807 → K (a.put o.dst (.slice A n c)) (Y.gr D)) :
    if Region.wanted o (yielded ops a.tmps) = true then Oper.wp Try.prog o a Y K Q else E := by
  subst ht hln
  have hlt : g < Y.heap.size := (Array.getElem?_eq_some_iff.1 hv).1
  refine step_apW (base := base) (n := 0) (xs := []) bytesT hw ho hs (own_e hv hbg) hxv hx.src (bv_one l) (by unfold maxLen; omega) (by omega) (by omega) ?_
  intro v' w' hap
  simp only [Nat.zero_add, List.nil_append] at hap
  obtain ⟨hb, hk⟩ := ap_e_grows hap hlt hv
  obtain ⟨D, rfl⟩ := gr_of_below hb
  have hO : OwnB (Y.gr D) base v' l := OwnB.of hap.1 rfl
  obtain ⟨A, c, rfl, _, h1, h2, _⟩ := hO.form
  rw [size_gr] at hk
  exact h D A c hO hk h1 (by unfold maxLen at h2; omega)
theorem st_anyW {Y W0 : World} {ops : Array Oper} {o : Oper} {a : Act} {K : Act → World → Prop} {Q : Exit → Act → World → Prop} {E : Prop} {s x : Operand} {t : TypeId} {base : Nat}
    (l0 l1 l : List UInt8) (n : Nat) (hll : l0 ++ l1 = l) (hln : l.length = n) (hw : Region.wanted o (yielded ops a.tmps) = true) (ho : o.op = .call { callee := .builtin .append, args := #[s, x], argTypes := #[t, t] }) (ht : t = 29)
    {v : Value} (hs : a.eval s = v) (hv : OwnB Y base v l0) {xv : Value} (hxv : a.eval x = xv) (hx : SB Y xv l1) (hl : l0.length + l1.length ≤ 140737488355328) (hbase : W0.heap.size ≤ base) (hB : Below W0.heap.size W0 Y) (hby : base ≤ Y.heap.size)
    (h : ∀ w' A c, OwnB w' base (.slice A n c) l → Below W0.heap.size W0 w' → (∀ b o u, Y.cell? ⟨b, o, none⟩ = some u → v.ownBlock ≠ some b → w'.cell? ⟨b, o, none⟩ = some u) → K (a.put o.dst (.slice A n c)) w') :
    if Region.wanted o (yielded ops a.tmps) = true then Oper.wp Try.prog o a Y K Q else E := by
  subst ht hll hln
  refine step_apW (base := base) bytesT hw ho hs hv hxv hx.src (bv_one l1) (by unfold maxLen; omega) (by omega) hby ?_
  intro v' w' hap
  rw [← List.map_append] at hap
  have hO : OwnB w' base v' (l0 ++ l1) := OwnB.of hap.1 rfl
  obtain ⟨A, c, rfl, _⟩ := hO.form
  exact h w' A c hO (ap_below hB hap hB.size (fun k hk => Nat.le_trans hbase (own_ge hv k hk))) (fun b o u hc hne => ap_cell hap (fun g hg e => hne (hg.trans (congrArg some e))) hc)

/-- st_anyW for an append whose value is looked at in the same region: what follows is shown at once (the second half), and once more of another value (the first half), for a walk that is to go on with what it knew beforehand -/
theorem st_anyW2 {Y W0 : World} {ops : Array Oper} {o : Oper} {a : Act} {K : Act → World → Prop} {Q : Exit → Act → World → Prop} {E : Prop} {s x : Operand} {t : TypeId} {base : Nat} (vin : Value)
    (l0 l1 l : List UInt8) (n : Nat) (hll : l0 ++ l1 = l) (hln : l.length = n) (hw : Region.wanted o (yielded ops a.tmps) = true) (ho : o.op = .call { callee := .builtin .append, args := #[s, x], argTypes := #[t, t] }) (ht : t = 29)
    {v : Value} (hs : a.eval s = v) (hv : OwnB Y base v l0) {xv : Value} (hxv : a.eval x = xv) (hx : SB Y xv l1) (hl : l0.length + l1.length ≤ 140737488355328) (hbase : W0.heap.size ≤ base) (hB : Below W0.heap.size W0 Y) (hby : base ≤ Y.heap.size)
    (h : ∀ w' A c, OwnB w' base (.slice A n c) l → Below W0.heap.size W0 w' → (∀ b o u, Y.cell? ⟨b, o, none⟩ = some u → v.ownBlock ≠ some b → w'.cell? ⟨b, o, none⟩ = some u) → K (a.put o.dst (.slice A n c)) w' ∧ K (a.put o.dst vin) w') :
    if Region.wanted o (yielded ops a.tmps) = true then Oper.wp Try.prog o a Y K Q else E :=
  st_anyW l0 l1 l n hll hln hw ho ht hs hv hxv hx hl hbase hB hby fun w' A c h1 h2 h3 => (h w' A c h1 h2 h3).1

theorem st_e {Y : World} {ops : Array Oper} {o : Oper} {a : Act} {K : Act → World → Prop} {Q : Exit → Act → World → Prop} {E : Prop} {s x : Operand} {t : TypeId} (base : Nat)
    (l : List UInt8) (n : Nat) (hln : l.length = n) (hgd : o.guard = none) (ho : o.op = .call { callee := .builtin .append, args := #[s, x], argTypes := #[t, t] }) (ht : t = 29)
    {g : Nat} (hs : a.eval s = .slice (some ⟨g, 0, none⟩) 0 0) (hv : Y.heap[g]? = some (.cells #[] 5)) (hbg : base ≤ g) {xv : Value} (hxv : a.eval x = xv) (hx : SB Y xv l) (hl : l.length ≤ 140737488355328)
    (h : ∀ D A c, OwnB (Y.gr D) base (.slice A n c) l → (∀ k, (Value.slice A n c).ownBlock = some k → k = g ∨ (Y.heap.size ≤ k ∧ k < Y.heap.size + D.k)) → n ≤ c → c ≤ 9223372036854775807 → K (a.put o.dst (.slice A n c)) (Y.gr D)) :
    if Region.wanted o (yielded ops a.tmps) = true then Oper.wp Try.prog o a Y K Q else E := by
  subst ht hln
  have hlt : g < Y.heap.size := (Array.getElem?_eq_some_iff.1 hv).1
  refine step_ap (base := base) (n := 0) (xs := []) bytesT hgd ho hs (own_e hv hbg) hxv hx.src (bv_one l) (by unfold maxLen; omega) (by omega) (by omega) ?_
  intro v' w' hap
  simp only [Nat.zero_add, List.nil_append] at hap
  obtain ⟨hb, hk⟩ := ap_e_grows hap hlt hv
  obtain ⟨D, rfl⟩ := gr_of_below hb
  have hO : OwnB (Y.gr D) base v' l := OwnB.of hap.1 rfl
  obtain ⟨A, c, rfl, _, h1, h2, _⟩ := hO.form
  rw [size_gr] at hk
  exact h D A c hO hk h1 (by unfold maxLen at h2; omega)
theorem ap_e {Y : World} {ops : Array Oper} {rest : List Oper} {o : Oper} {a : Act} {Q : Exit → Act → World → Prop} {s x : Operand} {t : TypeId} (base : Nat)
    (l : List UInt8) (n : Nat) (hln : l.length = n) (hgd : o.guard = none) (ho : o.op = .call { callee := .builtin .append, args := #[s, x], argTypes := #[t, t] }) (ht : t = 29)
    {g : Nat} (hs : a.eval s = .slice (some ⟨g, 0, none⟩) 0 0) (hv : Y.heap[g]? = some (.cells #[] 5)) (hbg : base ≤ g) {xv : Value} (hxv : a.eval x = xv) (hx : SB Y xv l) (hl : l.length ≤ 140737488355328)
    (h : ∀ D A c, OwnB (Y.gr D) base (.slice A n c) l → (∀ k, (Value.slice A n c).ownBlock = some k → k = g ∨ (Y.heap.size ≤ k ∧ k < Y.heap.size + D.k)) → n ≤ c → c ≤ 9223372036854775807 → wpList Try.prog ops Q rest (a.put o.dst (.slice A n c)) (Y.gr D)) :
    wpList Try.prog ops Q (o :: rest) a Y := by
  subst ht hln
  have hlt : g < Y.heap.size := (Array.getElem?_eq_some_iff.1 hv).1
  refine wpList_ap (base := base) (n := 0) (xs := []) bytesT hgd ho hs (own_e hv hbg) hxv hx.src (bv_one l) (by unfold maxLen; omega) (by omega) (by omega) ?_
  intro v' w' hap
  simp only [Nat.zero_add, List.nil_append] at hap
  obtain ⟨hb, hk⟩ := ap_e_grows hap hlt hv
  obtain ⟨D, rfl⟩ := gr_of_below hb
  have hO : OwnB (Y.gr D) base v' l := OwnB.of hap.1 rfl
  obtain ⟨A, c, rfl, _, h1, h2, _⟩ := hO.form
  rw [size_gr] at hk
  exact h D A c hO hk h1 (by unfold maxLen at h2; omega)
end Go.Proofs.Ytcbglojjbgenlaa
