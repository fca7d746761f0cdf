/- An honest access: Get, Read. -/
import Derived.Test.YtcbglojjbgenlaaMedG
import Derived.Test.YtcbglojjbgenlaaMedH
namespace Go.Proofs.Ytcbglojjbgenlaa
open Go.RowKit Go.MapL Go.ChangeMaps Go.MapKept
set_option linter.unusedSimpArgs false
set_option linter.unusedVariables false
attribute [local go_sem] size_gr cell_gr frozen_gr setCell_gr gr_drew gr_drewN lt_k lt_kc le_k le_kc sub_kc nil29 nil28 nil49 mkmap size_setBlock cell_setB
attribute [local go_sem ↓] Go.wp_at_zero Go.wp_at_succ

theorem deed_fr {w : World} {A : Nat} {kind : Int} {q : H32} {da ks : Value} {n cnt : Int} {tag : H32} (h : DeedAt w A kind q da ks n cnt tag) (i : Nat) : w.frozen? ⟨A, i, none⟩ = false := frozen_of_row _ _ _ _ _ h
theorem setCell_row {w : World} {g i : Nat} {c : Array Value} {t : TypeId} {fr : Nat × Nat} (h : w.heap[g]? = some (.cells c t fr)) (v : Value) : (w.setCell ⟨g, i, none⟩ v).heap[g]? = some (.cells (c.setIfInBounds i v) t fr) := by
  rw [setCell_eq_setRow w g i c t fr v h]
  exact setRow_heap w g c _ t fr h
theorem deed_set33 {w : World} {A : Nat} {kind : Int} {q : H32} {da ks : Value} {n cnt : Int} {tag : H32} (h : DeedAt w A kind q da ks n cnt tag) (v : Value) : DeedAt (w.setCell ⟨A, 33, none⟩ v) A kind q v ks n cnt tag := by
  unfold DeedAt
  rw [setCell_row h]
  congr 2
  apply Array.ext'
  rw [Array.toList_setIfInBounds]
  have e : ∀ (u : Value), deedC kind q u ks n cnt tag = ([.int .i64 kind] ++ q.1.map bv) ++ u :: ([ks, .int .i64 n, .int .i64 cnt] ++ tag.1.map bv) := fun u => by simp [deedC]
  rw [e da, e v]
  show List.set _ 33 v = _
  rw [List.set_append_right _ _ (by simp [q.2])]
  simp [q.2]
theorem deed_set34 {w : World} {A : Nat} {kind : Int} {q : H32} {da ks : Value} {n cnt : Int} {tag : H32} (h : DeedAt w A kind q da ks n cnt tag) (v : Value) : DeedAt (w.setCell ⟨A, 34, none⟩ v) A kind q da v n cnt tag := by
  unfold DeedAt
  rw [setCell_row h]
  congr 2
  apply Array.ext'
  rw [Array.toList_setIfInBounds]
  have e : ∀ (u : Value), deedC kind q da u n cnt tag = ([.int .i64 kind] ++ q.1.map bv ++ [da]) ++ u :: ([.int .i64 n, .int .i64 cnt] ++ tag.1.map bv) := fun u => by simp [deedC]
  rw [e ks, e v]
  show List.set _ 34 v = _
  rw [List.set_append_right _ _ (by simp [q.2])]
  simp [q.2]
theorem heap_set_ne (w : World) {A B i : Nat} (v : Value) (h : B ≠ A) : (w.setCell ⟨A, i, none⟩ v).heap[B]? = w.heap[B]? := Below.heap_setCell _ _ _ _ h
theorem chg_set {S : Nat → Prop} {a w : World} (h : Chg S a w) {g i : Nat} (hg : S g) (v : Value) : Chg S a (w.setCell ⟨g, i, none⟩ v) := h.setCell (p := ⟨g, i, none⟩) hg v
theorem deed_bel {w w' : World} {A : Nat} {kind : Int} {q : H32} {da ks : Value} {n cnt : Int} {tag : H32} (h : DeedAt w A kind q da ks n cnt tag) (hb : Below w.heap.size w w') : DeedAt w' A kind q da ks n cnt tag := (hb.block _ (Array.getElem?_eq_some_iff.1 h).1).trans h
theorem deed_chg {S : Nat → Prop} {w w' : World} {A : Nat} {kind : Int} {q : H32} {da ks : Value} {n cnt : Int} {tag : H32} (h : DeedAt w A kind q da ks n cnt tag) (hb : Chg S w w') (hs : ¬ S A) : DeedAt w' A kind q da ks n cnt tag := (hb.block _ (Array.getElem?_eq_some_iff.1 h).1 hs).trans h
theorem dev_bel {w w' : World} {D : Nat} {f : Fd} (h : DevAt w D f) (hb : Below w.heap.size w w') : DevAt w' D f := (hb.block _ (Array.getElem?_eq_some_iff.1 h).1).trans h
theorem dev_chg {S : Nat → Prop} {w w' : World} {D : Nat} {f : Fd} (h : DevAt w D f) (hb : Chg S w w') (hs : ¬ S D) : DevAt w' D f := (hb.block _ (Array.getElem?_eq_some_iff.1 h).1 hs).trans h
theorem dev_ne_deed {w : World} {D A : Nat} {f : Fd} {kind : Int} {q : H32} {da ks : Value} {n cnt : Int} {tag : H32} (hD : DevAt w D f) (h : DeedAt w A kind q da ks n cnt tag) : D ≠ A := by
  rintro rfl
  unfold DevAt at hD
  unfold DeedAt at h
  rw [hD] at h
  injection h with h
  injection h with _ h
  exact absurd h (by decide)
theorem map_ne_cells {w : World} {B A n : Nat} {m : H32 → Option Value} {c : Array Value} {t : TypeId} {fr : Nat × Nat} (hB : MapIs HC w B m n) (h : w.heap[A]? = some (.cells c t fr)) : B ≠ A := by
  rintro rfl
  obtain ⟨es, clk, hb, _⟩ := hB
  rw [hb] at h
  cases h
theorem lookB1 (w : World) (N n : Nat) (m : H32 → Option Value) (q : H32) (h : MapIs HC w N m n) : (Instr.lookup 76 (.map (some N)) (.agg (q.1.map bv).toArray) false).run Try.prog w = .ok ((m q).getD (.slice none 0 0)) w := h.look Try.underlying76 (zeroB w) q false
/-- what the region of Get's answer may lean on -/
theorem keepG {W0 W : World} {N n A : Nat} {m : H32 → Option Value} {q : H32} {X : Value} (hm : MapIs HC W0 N m n) (hN : N ≠ A) (hr : W0.rangeAt A 1 (q.1.map bv)) (hX : (m q).getD (.slice none 0 0) = X)
    (h : Below W0.heap.size W0 W ∨ ∃ v, W = W0.drew.setCell ⟨A, 33, none⟩ v) :
    (∀ (b o : Nat), b < W0.heap.size → b ≠ A → W.cell? ⟨b, o, none⟩ = W0.cell? ⟨b, o, none⟩) ∧ W.rangeAt A 1 (q.1.map bv) ∧ (Instr.lookup 76 (.map (some N)) (.agg (q.1.map bv).toArray) false).run Try.prog W = .ok X W := by
  rcases h with h | ⟨v, rfl⟩
  · exact ⟨fun b o hb _ => cellB h b o hb, range_bel hr h, hX ▸ lookB1 W N n m q (map_bel hm h)⟩
  · refine ⟨fun b o hb hne => World.cell?_of_block (heap_set_ne _ v hne), fun j u hj => ?_, hX ▸ lookB1 _ N n m q ((map_bel hm (bg_dr (Below.refl _ _))).of_cell (heap_set_ne _ v hN))⟩
    have hj' : j < 32 := by have := (List.getElem?_eq_some_iff.1 hj).1; simpa [q.2] using this
    rw [World.cell?_setCell_other _ (a := ⟨A, 33, none⟩) (b := ⟨A, 1 + j, none⟩) v (fun e => by injection e with _ e _; omega)]
    exact hr j u hj

set_option maxRecDepth 8000 in
theorem does_get (D A B nB : Nat) (f : Fd) (mB : H32 → Option Value) (q : H32) (da ks : Value) (n cnt : Int) (tag : H32) (w : World) (hD : DevAt w D f) (hA : DeedAt w A 1 q da ks n cnt tag) (hfB : f.bm = .map (some B)) (hB : MapIs HC w B mB nB)
    (xA : Option Addr) (xn xc : Nat) (hx : mB q = some (.slice xA xn xc)) :
    Calls Try.prog 62 #[.pointer (some ⟨D, 0, none⟩), .pointer (some ⟨A, 0, none⟩)] w fun e w' => e = .returned (.int .i64 0) ∧ DeedAt w' A 1 q (.slice xA xn xc) ks n cnt tag ∧ Chg (fun k => k = A) w w' := by
  have HR := Lib.hid (refuses_get D A B nB f mB q da ks n cnt tag w hD hA hfB hB _ rfl (by rw [hx]; rfl))
  have HAq := Lib.hid hA
  have HB := Lib.hid hB
  have HX := Lib.hid hx
  have HBA := Lib.hid (map_ne_cells hB hA)
  obtain ⟨hc0, hc1, hc2, hc3, hc4, -⟩ := dev_c hD
  obtain ⟨ha0, ha33, ha34, ha35, ha36, hak, har⟩ := deed_c hA
  have hf33 := deed_fr hA 33
  have hDA := dev_ne_deed hD hA
  rw [hfB] at hc2
  have hDlt : D < w.heap.size := World.block_lt_of_cell? w _ hc2
  have hAlt : A < w.heap.size := World.block_lt_of_cell? w _ ha0
  have HK := Lib.hid hak
  have hql := q_len q
  have hqu := Try.underlying33
  have hqi := hash_info q
  clear hD hA hfB hB hak har hx
  go_enter Try.func62, Try.ntmps62
  go_wp2_with (go_at_call 63; refine HR.out.mono ?_; rintro en w1 ⟨rfl, n1, rfl⟩)
  refine with_world (fun W0 hW0 => ?_)
  have hB0 : Below w.heap.size w W0 := by rw [hW0]; (repeat (first | exact Below.refl _ _ | refine bg_al ?_ | refine bg_gr ?_ | refine bg_drn ?_ | refine bg_dr ?_ | assumption))
  have HB0 := Lib.hid hB0
  have z0 : D < W0.heap.size := by have := hB0.size; omega
  have y0 : A < W0.heap.size := by have := hB0.size; omega
  have k2 : W0.cell? ⟨D, 2, none⟩ = some (.map (some B)) := by rw [hB0.cell (p := ⟨D, 2, none⟩) hDlt]; exact hc2
  have k33 : W0.cell? ⟨A, 33, none⟩ = some da := by rw [hB0.cell (p := ⟨A, 33, none⟩) hAlt]; exact ha33
  have kf33 : W0.frozen? ⟨A, 33, none⟩ = false := by rw [hB0.frozen (p := ⟨A, 33, none⟩) hAlt]; exact hf33
  clear hB0 hW0
  go_region_held3 (fun W => (∀ (b o : Nat), b < W0.heap.size → b ≠ A → W.cell? ⟨b, o, none⟩ = W0.cell? ⟨b, o, none⟩) ∧ W.rangeAt A 1 (q.1.map bv) ∧ (Instr.lookup 76 (.map (some B)) (.agg (q.1.map bv).toArray) false).run Try.prog W = .ok (.slice xA xn xc) W)
    (first | exact keepG (W0 := W0) (map_bel HB.out HB0.out) HBA.out (range_bel HK.out HB0.out) (by rw [HX.out]; rfl) (Or.inr ⟨_, rfl⟩) | exact keepG (W0 := W0) (map_bel HB.out HB0.out) HBA.out (range_bel HK.out HB0.out) (by rw [HX.out]; rfl) (Or.inl (by (repeat (first | exact Below.refl _ _ | refine bg_al ?_ | refine bg_gr ?_ | refine bg_drn ?_ | refine bg_dr ?_ | assumption))))) (fail)
  go_wp2_with fail
  go_ret
  refine ⟨rfl, ?_, ?_⟩
  · exact deed_set33 (deed_bel HAq.out (show Below w.heap.size w W0.drew from HB0.out.drew)) _
  · exact chg_set (S := fun k => k = A) (Below.chg _ (show Below w.heap.size w W0.drew from HB0.out.drew)) rfl _

set_option maxRecDepth 8000 in
theorem does_read (D A B nB : Nat) (f : Fd) (mB : H32 → Option Value) (q : H32) (da ks : Value) (n cnt : Int) (tag : H32) (w : World) (hD : DevAt w D f) (hA : DeedAt w A 5 q da ks n cnt tag) (hfB : f.bm = .map (some B)) (hB : MapIs HC w B mB nB) (lA : Option Addr) (ln lc : Nat) (hlog : f.log = .slice lA ln lc) :
    Calls Try.prog 62 #[.pointer (some ⟨D, 0, none⟩), .pointer (some ⟨A, 0, none⟩)] w fun e w' => e = .returned (.int .i64 0) ∧ DeedAt w' A 5 q (.slice lA ln lc) ks n cnt tag ∧ Chg (fun k => k = A) w w' := by
  have HR := Lib.hid (refuses_read D A B nB f mB q da ks n cnt tag w hD hA hfB hB _ rfl _ rfl)
  have HAq := Lib.hid hA
  obtain ⟨hc0, hc1, hc2, hc3, hc4, -⟩ := dev_c hD
  obtain ⟨ha0, ha33, ha34, ha35, ha36, hak, har⟩ := deed_c hA
  have hf33 := deed_fr hA 33
  have hDA := dev_ne_deed hD hA
  rw [hlog] at hc3
  have hDlt : D < w.heap.size := World.block_lt_of_cell? w _ hc3
  have hAlt : A < w.heap.size := World.block_lt_of_cell? w _ ha0
  clear hD hA hfB hB hak har hlog
  go_enter Try.func62, Try.ntmps62
  go_wp2_with (go_at_call 63; refine HR.out.mono ?_; rintro en w1 ⟨rfl, n1, rfl⟩)
  go_ret
  refine ⟨rfl, ?_, ?_⟩
  · exact deed_set33 (deed_bel HAq.out (by (repeat (first | exact Below.refl _ _ | refine bg_al ?_ | refine bg_gr ?_ | refine bg_drn ?_ | refine bg_dr ?_ | assumption)))) _
  · exact chg_set (S := fun k => k = A) (Below.chg _ (by (repeat (first | exact Below.refl _ _ | refine bg_al ?_ | refine bg_gr ?_ | refine bg_drn ?_ | refine bg_dr ?_ | assumption)))) rfl _
end Go.Proofs.Ytcbglojjbgenlaa
