/- The device's own maps: set. -/
import Derived.Test.YtcbglojjbgenlaaMedE
namespace Go.Proofs.Ytcbglojjbgenlaa
open Go.RowKit Go.MapL Go.ChangeMaps Go.MapKept
set_option linter.unusedSimpArgs false
set_option linter.unusedVariables false

theorem zeroB (w : World) : (zeroValue 29).run Try.prog w = .ok (.slice none 0 0) w := (zero_of_info (P := Try.prog) (n := 1) (by kernel_rfl)).1 w
theorem zeroO (w : World) : (zeroValue 112).run Try.prog w = .ok (.agg #[.slice none 0 0, .bool false]) w := (zero_of_info (P := Try.prog) (n := 2) (by kernel_rfl)).1 w
theorem zeroR (w : World) : (zeroValue 60).run Try.prog w = .ok (.slice none 0 0) w := (zero_of_info (P := Try.prog) (n := 1) (by kernel_rfl)).1 w

theorem size_setBlock (w : World) (B : Nat) (o : Obj) : (setBlock w B o).heap.size = w.heap.size := by simp [setBlock]
theorem heap_setB (w : World) (B : Nat) (o : Obj) (k : Nat) (h : k ≠ B) : (setBlock w B o).heap[k]? = w.heap[k]? := by
  simp only [setBlock, Array.getElem?_setIfInBounds]
  rw [if_neg (fun e => h e.symm)]
theorem cell_setB (w : World) (B : Nat) (o : Obj) (b i : Nat) (h : b ≠ B) : (setBlock w B o).cell? ⟨b, i, none⟩ = w.cell? ⟨b, i, none⟩ := World.cell?_of_block (heap_setB w B o b h)
theorem chg_setB {S : Nat → Prop} {a w : World} (h : Chg S a w) {B : Nat} (hB : S B) (o : Obj) : Chg S a (setBlock w B o) :=
  h.trans ⟨rfl, rfl, rfl, by rw [size_setBlock]; exact Nat.le_refl _, fun k _ hs => heap_setB w B o k (fun e => hs (e ▸ hB))⟩
theorem map_none {C : KeyEnc Try.prog 33 H32} {w : World} {B n : Nat} {m : H32 → Option Value} (h : MapIs C w B m n) (i : Nat) : w.cell? ⟨B, i, none⟩ = none := by
  obtain ⟨es, clk, hb, _⟩ := h
  simp [World.cell?, hb]

theorem dev_at {w : World} {D : Nat} {f : Fd} (h : DevAt w D f) (i : Nat) : w.cell? ⟨D, i, none⟩ = (devC f)[i]? := by
  rw [cell_of_row w D i _ _ _ h]
  simp
theorem dev_fr {w : World} {D : Nat} {f : Fd} (h : DevAt w D f) (i : Nat) : w.frozen? ⟨D, i, none⟩ = false := frozen_of_row _ _ _ _ _ h
theorem dev_c {w : World} {D : Nat} {f : Fd} (h : DevAt w D f) :
    w.cell? ⟨D, 0, none⟩ = some (.int .i64 f.slots) ∧ w.cell? ⟨D, 1, none⟩ = some (.int .i64 f.room) ∧ w.cell? ⟨D, 2, none⟩ = some f.bm ∧ w.cell? ⟨D, 3, none⟩ = some f.log ∧ w.cell? ⟨D, 4, none⟩ = some (.int .i64 f.cnt) ∧
    w.cell? ⟨D, 37, none⟩ = some (.bool f.down) ∧ w.cell? ⟨D, 38, none⟩ = some f.cho ∧ w.cell? ⟨D, 39, none⟩ = some f.acc ∧ w.cell? ⟨D, 40, none⟩ = some f.vers ∧ w.cell? ⟨D, 41, none⟩ = some f.past ∧ w.cell? ⟨D, 42, none⟩ = some f.nb ∧ w.cell? ⟨D, 43, none⟩ = some f.nl := by
  have e : ∀ i, (devC f)[37 + i]? = [.bool f.down, f.cho, f.acc, f.vers, f.past, f.nb, f.nl][i]? := fun i => by
    unfold devC
    rw [List.getElem?_append_right (by simp; omega), List.getElem?_append_right (by simp [f.tag.2]; omega)]
    congr 1
    simp [f.tag.2]
    omega
  refine ⟨?_, ?_, ?_, ?_, ?_, ?_, ?_, ?_, ?_, ?_, ?_, ?_⟩
  · rw [dev_at h]; rfl
  · rw [dev_at h]; rfl
  · rw [dev_at h]; rfl
  · rw [dev_at h]; rfl
  · rw [dev_at h]; rfl
  · rw [dev_at h]; exact e 0
  · rw [dev_at h]; exact e 1
  · rw [dev_at h]; exact e 2
  · rw [dev_at h]; exact e 3
  · rw [dev_at h]; exact e 4
  · rw [dev_at h]; exact e 5
  · rw [dev_at h]; exact e 6

attribute [local go_sem] size_gr cell_gr frozen_gr setCell_gr gr_drew gr_drewN lt_k lt_kc le_k le_kc sub_kc nil29 nil28 nil49 mkmap size_setBlock cell_setB
attribute [local go_sem ↓] Go.wp_at_zero Go.wp_at_succ

theorem map_bel {w w' : World} {B n : Nat} {m : H32 → Option Value} (h : MapIs HC w B m n) (hb : Below w.heap.size w w') : MapIs HC w' B m n := h.of_cell (hb.block _ h.lt)
theorem map_chg {S : Nat → Prop} {w w' : World} {B n : Nat} {m : H32 → Option Value} (h : MapIs HC w B m n) (hb : Chg S w w') (hs : ¬ S B) : MapIs HC w' B m n := h.of_cell (hb.block _ h.lt hs)
theorem range_bel {w w' : World} {g o : Nat} {cs : List Value} (h : w.rangeAt g o cs) (hb : Below w.heap.size w w') : w'.rangeAt g o cs := fun j v hv => by
  have := h j v hv
  rw [hb.cell (World.block_lt_of_cell? w _ this)]
  exact this
theorem lookO (w : World) (N n : Nat) (m : H32 → Option Value) (q : H32) (h : MapIs HC w N m n) : (Instr.lookup 80 (.map (some N)) (.agg (q.1.map bv).toArray) true).run Try.prog w = .ok (.tuple #[(m q).getD (.agg #[.slice none 0 0, .bool false]), .bool (m q).isSome]) w := h.look Try.underlying80 (zeroO w) q true
theorem lookB (w : World) (N n : Nat) (m : H32 → Option Value) (q : H32) (h : MapIs HC w N m n) : (Instr.lookup 76 (.map (some N)) (.agg (q.1.map bv).toArray) true).run Try.prog w = .ok (.tuple #[(m q).getD (.slice none 0 0), .bool (m q).isSome]) w := h.look Try.underlying76 (zeroB w) q true
/-- what a region that looks a key up may lean on -/
theorem keepO {W0 W : World} {N n g : Nat} {m : H32 → Option Value} {q : H32} {X : Value} (hm : MapIs HC W0 N m n) (hr : W0.rangeAt g 0 (q.1.map bv)) (hX : .tuple #[(m q).getD (.agg #[.slice none 0 0, .bool false]), .bool (m q).isSome] = X) (h : Below W0.heap.size W0 W) :
    (∀ (b o : Nat), b < W0.heap.size → W.cell? ⟨b, o, none⟩ = W0.cell? ⟨b, o, none⟩) ∧ W.rangeAt g 0 (q.1.map bv) ∧ (Instr.lookup 80 (.map (some N)) (.agg (q.1.map bv).toArray) true).run Try.prog W = .ok X W :=
  ⟨cellB h, range_bel hr h, hX ▸ lookO W N n m q (map_bel hm h)⟩
theorem keepB {W0 W : World} {N n g : Nat} {m : H32 → Option Value} {q : H32} {X : Value} (hm : MapIs HC W0 N m n) (hr : W0.rangeAt g 0 (q.1.map bv)) (hX : .tuple #[(m q).getD (.slice none 0 0), .bool (m q).isSome] = X) (h : Below W0.heap.size W0 W) :
    (∀ (b o : Nat), b < W0.heap.size → W.cell? ⟨b, o, none⟩ = W0.cell? ⟨b, o, none⟩) ∧ W.rangeAt g 0 (q.1.map bv) ∧ (Instr.lookup 76 (.map (some N)) (.agg (q.1.map bv).toArray) true).run Try.prog W = .ok X W :=
  ⟨cellB h, range_bel hr h, hX ▸ lookB W N n m q (map_bel hm h)⟩

theorem keepN {W0 W : World} {N g : Nat} {q : H32} (hr : W0.rangeAt g 0 (q.1.map bv)) (h : Below W0.heap.size W0 W) :
    (∀ (b o : Nat), b < W0.heap.size → b ≠ N → W.cell? ⟨b, o, none⟩ = W0.cell? ⟨b, o, none⟩) ∧ W.rangeAt g 0 (q.1.map bv) :=
  ⟨fun b o hb _ => cellB h b o hb, range_bel hr h⟩
theorem keepN' {W0 : World} {N g : Nat} {q : H32} {ob : Obj} (hr : W0.rangeAt g 0 (q.1.map bv)) (hg : g ≠ N) :
    (∀ (b o : Nat), b < W0.heap.size → b ≠ N → (setBlock W0.drew N ob).cell? ⟨b, o, none⟩ = W0.cell? ⟨b, o, none⟩) ∧ (setBlock W0.drew N ob).rangeAt g 0 (q.1.map bv) :=
  ⟨fun b o hb hn => cell_setB _ _ _ _ _ hn, fun j v hv => (cell_setB _ _ _ _ _ hg).trans (hr j v hv)⟩
set_option maxRecDepth 8000 in
open Classical in
/-- set -/
theorem set_new (D B N nB nN : Nat) (f : Fd) (mB mN : H32 → Option Value) (q : H32) (v : Value) (w : World) (hD : DevAt w D f) (hfB : f.bm = .map (some B)) (hfN : f.nb = .map (some N)) (hBN : B ≠ N) (hB : MapIs HC w B mB nB) (hN : MapIs HC w N mN nN)
    (hno : mN q = none) (xA : Option Addr) (xn xc : Nat) (xb : Bool) (hxo : (mB q).getD (.slice none 0 0) = .slice xA xn xc) (hxb : (mB q).isSome = xb) (nB' : Nat) (hnB : (if (mB q).isSome then nB else nB + 1) = nB') :
    Calls Try.prog 65 #[.pointer (some ⟨D, 0, none⟩), hv q, v, .bool true] w fun e w' => e = .returned (.tuple #[]) ∧
      MapIs HC w' B (putV mB q v) nB' ∧ MapIs HC w' N (putV mN q (.agg #[.slice xA xn xc, .bool xb])) (nN + 1) ∧ Chg (fun k => k = B ∨ k = N) w w' := by
  obtain ⟨-, -, hc2, -, -, -, -, -, -, -, hc42, -⟩ := dev_c hD
  rw [hfB] at hc2
  rw [hfN] at hc42
  have hDB : D ≠ B := fun e => by rw [e, map_none hB] at hc2; cases hc2
  have hDN : D ≠ N := fun e => by rw [e, map_none hN] at hc2; cases hc2
  have HD := Lib.hid hD
  have HB := Lib.hid hB
  have HN := Lib.hid hN
  have HNO := Lib.hid hno
  have HXO := Lib.hid hxo
  have HXB := Lib.hid hxb
  have HNB := Lib.hid hnB
  have hDlt : D < w.heap.size := World.block_lt_of_cell? w _ hc2
  have hBlt : B < w.heap.size := hB.lt
  have hNlt : N < w.heap.size := hN.lt
  have hql := q_len q
  have hqu := Try.underlying33
  have hqi := hash_info q
  clear hD hB hN hno hxo hxb hfB hfN hnB
  unfold hv
  go_enter Try.func65, Try.ntmps65
  go_wp2_with fail
  refine with_world (fun W0 hW0 => ?_)
  have HW0 := Lib.hid hW0
  have hB0 : Below w.heap.size w W0 := by rw [hW0]; (repeat (first | exact Below.refl _ _ | refine bg_al ?_ | refine bg_gr ?_ | refine bg_drn ?_ | refine bg_dr ?_ | assumption))
  have HB0 := Lib.hid hB0
  have z0 : W0.heap.size = w.heap.size + 1 := by rw [hW0]; simp
  have k2 : W0.cell? ⟨D, 2, none⟩ = some (.map (some B)) := by rw [hB0.cell (p := ⟨D, 2, none⟩) hDlt]; exact hc2
  have k42 : W0.cell? ⟨D, 42, none⟩ = some (.map (some N)) := by rw [hB0.cell (p := ⟨D, 42, none⟩) hDlt]; exact hc42
  have hr0 : W0.rangeAt w.heap.size 0 (q.1.map bv) := by rw [hW0]; exact range_hash w _ q rfl
  have HR0 := Lib.hid hr0
  clear hW0 hB0 hr0
  go_region_held3 (fun W => (∀ (b o : Nat), b < W0.heap.size → W.cell? ⟨b, o, none⟩ = W0.cell? ⟨b, o, none⟩) ∧ W.rangeAt w.heap.size 0 (q.1.map bv) ∧ (Instr.lookup 80 (.map (some N)) (.agg (q.1.map bv).toArray) true).run Try.prog W = .ok (.tuple #[.agg #[.slice none 0 0, .bool false], .bool false]) W)
    (exact keepO (map_bel HN.out HB0.out) HR0.out (by rw [HNO.out]; rfl) (by (repeat (first | exact Below.refl _ _ | refine bg_al ?_ | refine bg_gr ?_ | refine bg_drn ?_ | refine bg_dr ?_ | assumption)))) (fail)
  all_goals go_wp2_with fail
  all_goals
    refine with_world (fun W1 hW1 => ?_)
    have hB1 : Below w.heap.size w W1 := by have hB0 := HB0.out; rw [hW1]; (repeat (first | exact Below.refl _ _ | refine bg_al ?_ | refine bg_gr ?_ | refine bg_drn ?_ | refine bg_dr ?_ | assumption))
    have HB1 := Lib.hid hB1
    have HBA := Lib.hid (show Below W0.heap.size W0 W1 by rw [hW1]; (repeat (first | exact Below.refl _ _ | refine bg_al ?_ | refine bg_gr ?_ | refine bg_drn ?_ | refine bg_dr ?_ | assumption)))
    have z1 : D < W1.heap.size := by have := hB1.size; omega
    have j2 : W1.cell? ⟨D, 2, none⟩ = some (.map (some B)) := by rw [hB1.cell (p := ⟨D, 2, none⟩) hDlt]; exact hc2
    have j42 : W1.cell? ⟨D, 42, none⟩ = some (.map (some N)) := by rw [hB1.cell (p := ⟨D, 42, none⟩) hDlt]; exact hc42
    clear hW1 hB1
    go_region_held3 (fun W => (∀ (b o : Nat), b < W1.heap.size → W.cell? ⟨b, o, none⟩ = W1.cell? ⟨b, o, none⟩) ∧ W.rangeAt w.heap.size 0 (q.1.map bv) ∧ (Instr.lookup 76 (.map (some B)) (.agg (q.1.map bv).toArray) true).run Try.prog W = .ok (.tuple #[.slice xA xn xc, .bool xb]) W)
      (exact keepB (map_bel HB.out HB1.out) (range_bel HR0.out HBA.out) (by rw [HXO.out, HXB.out]) (by (repeat (first | exact Below.refl _ _ | refine bg_al ?_ | refine bg_gr ?_ | refine bg_drn ?_ | refine bg_dr ?_ | assumption)))) (fail)
    go_wp2_with fail
    refine with_world (fun W2 hW2 => ?_)
    have hB2 : Below w.heap.size w W2 := by have hB1 := HB1.out; rw [hW2]; (repeat (first | exact Below.refl _ _ | refine bg_al ?_ | refine bg_gr ?_ | refine bg_drn ?_ | refine bg_dr ?_ | assumption))
    have HB2 := Lib.hid hB2
    have HBC := Lib.hid (show Below W0.heap.size W0 W2 from bel_trans HBA.out (by rw [hW2]; (repeat (first | exact Below.refl _ _ | refine bg_al ?_ | refine bg_gr ?_ | refine bg_drn ?_ | refine bg_dr ?_ | assumption))))
    have z2 : D < W2.heap.size := by have := hB2.size; omega
    have HG := Lib.hid (show w.heap.size ≠ N by omega)
    have i2 : W2.cell? ⟨D, 2, none⟩ = some (.map (some B)) := by rw [hB2.cell (p := ⟨D, 2, none⟩) hDlt]; exact hc2
    have i42 : W2.cell? ⟨D, 42, none⟩ = some (.map (some N)) := by rw [hB2.cell (p := ⟨D, 42, none⟩) hDlt]; exact hc42
    obtain ⟨ob, hrun, hN2⟩ := (map_bel HN.out (show Below w.heap.size w W2.drew from hB2.drew)).put Try.underlying80 q (.agg #[.slice xA xn xc, .bool xb])
    have hrun' : (Instr.mapUpdate 80 (.map (some N)) (.agg (q.1.map bv).toArray) (.agg #[.slice xA xn xc, .bool xb])).run Try.prog W2.drew = .ok () (setBlock W2.drew N ob) := hrun
    have HN2 := Lib.hid hN2
    clear hW2 hB2 hN2 hrun
    go_region_held3 (fun W => (∀ (b o : Nat), b < W2.heap.size → b ≠ N → W.cell? ⟨b, o, none⟩ = W2.cell? ⟨b, o, none⟩) ∧ W.rangeAt w.heap.size 0 (q.1.map bv))
      (first | exact keepN' (range_bel HR0.out HBC.out) HG.out | exact keepN (range_bel HR0.out HBC.out) (by (repeat (first | exact Below.refl _ _ | refine bg_al ?_ | refine bg_gr ?_ | refine bg_drn ?_ | refine bg_dr ?_ | assumption)))) (fail)
    go_wp2_with fail
    refine with_world (fun W3 hW3 => ?_)
    have hC3 : Chg (fun k => k = N) w W3 := by rw [hW3]; exact chg_setB (S := fun k => k = N) (Below.chg _ HB2.out.drew) rfl ob
    have HC3 := Lib.hid hC3
    have z3 : D < W3.heap.size := by have := hC3.size; omega
    have l2 : W3.cell? ⟨D, 2, none⟩ = some (.map (some B)) := by rw [World.cell?_of_block (hC3.block D hDlt hDN)]; exact hc2
    have HR3 : Hid (W3.rangeAt w.heap.size 0 (q.1.map bv)) := Lib.hid (by
      have := (keepN' (ob := ob) (range_bel HR0.out HBC.out) HG.out).2
      rw [hW3]; exact this)
    have HN3 : Hid (MapIs HC W3 N (putV mN q (.agg #[.slice xA xn xc, .bool xb])) (nN + 1)) := Lib.hid (by
      have := HN2.out
      rw [HNO.out] at this
      rw [hW3]; exact this)
    obtain ⟨ob2, hrun2, hB3⟩ := (map_chg HB.out (show Chg (fun k => k = N) w W3.drew from hC3.drewN 1) hBN).put Try.underlying76 q v
    have hrun2' : (Instr.mapUpdate 76 (.map (some B)) (.agg (q.1.map bv).toArray) v).run Try.prog W3.drew = .ok () (setBlock W3.drew B ob2) := hrun2
    have HB3 := Lib.hid hB3
    have HG2 := Lib.hid (show w.heap.size ≠ B by omega)
    clear hW3 hC3 hB3 hrun2
    go_region_held3 (fun W => (∀ (b o : Nat), b < W3.heap.size → b ≠ B → W.cell? ⟨b, o, none⟩ = W3.cell? ⟨b, o, none⟩) ∧ W.rangeAt w.heap.size 0 (q.1.map bv))
      (first | exact keepN' HR3.out HG2.out | exact keepN HR3.out (by (repeat (first | exact Below.refl _ _ | refine bg_al ?_ | refine bg_gr ?_ | refine bg_drn ?_ | refine bg_dr ?_ | assumption)))) (fail)
    go_wp2_with fail
    go_end0
    refine ⟨rfl, ?_, ?_, ?_⟩
    · have := HB3.out
      rw [HNB.out] at this
      exact this
    · exact (map_bel HN3.out (bg_dr (Below.refl _ _))).of_cell (heap_setB _ _ _ _ (fun e => hBN e.symm))
    · exact chg_setB (S := fun k => k = B ∨ k = N) ((HC3.out.drewN 1).mono (fun k _ h => Or.inr h)) (Or.inl rfl) ob2
end Go.Proofs.Ytcbglojjbgenlaa
