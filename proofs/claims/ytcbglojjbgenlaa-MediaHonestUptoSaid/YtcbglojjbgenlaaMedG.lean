/- What an honest access refuses. -/
import Derived.Test.YtcbglojjbgenlaaMdA
namespace Go.Proofs.Ytcbglojjbgenlaa
open Go.RowKit Go.MapL Go.ChangeMaps Go.MapKept
set_option linter.unusedSimpArgs false
set_option linter.unusedVariables false
attribute [local go_sem] size_gr cell_gr frozen_gr setCell_gr gr_drew gr_drewN lt_k lt_kc le_k le_kc sub_kc nil29 nil28 nil49 mkmap size_setBlock cell_setB
attribute [local go_sem ↓] Go.wp_at_zero Go.wp_at_succ

/-- a deed in its block -/
def DeedAt (w : World) (A : Nat) (kind : Int) (q : H32) (da ks : Value) (n cnt : Int) (tag : H32) : Prop := w.heap[A]? = some (.cells (deedC kind q da ks n cnt tag).toArray 86 (0, 0))
theorem deed_c {w : World} {A : Nat} {kind : Int} {q : H32} {da ks : Value} {n cnt : Int} {tag : H32} (h : DeedAt w A kind q da ks n cnt tag) :
    w.cell? ⟨A, 0, none⟩ = some (.int .i64 kind) ∧ w.cell? ⟨A, 33, none⟩ = some da ∧ w.cell? ⟨A, 34, none⟩ = some ks ∧ w.cell? ⟨A, 35, none⟩ = some (.int .i64 n) ∧ w.cell? ⟨A, 36, none⟩ = some (.int .i64 cnt) ∧ w.rangeAt A 1 (q.1.map bv) ∧ w.rangeAt A 36 (regC cnt tag) := by
  have hc : ∀ i, w.cell? ⟨A, i, none⟩ = (deedC kind q da ks n cnt tag)[i]? := fun i => by rw [cell_of_row w A i _ _ _ h]; simp
  have e : ∀ i, (deedC kind q da ks n cnt tag)[33 + i]? = ([da, ks, .int .i64 n, .int .i64 cnt] ++ tag.1.map bv)[i]? := fun i => by
    unfold deedC
    rw [List.getElem?_append_right (by simp; omega), List.getElem?_append_right (by simp [q.2])]
    congr 1
    simp [q.2]
  refine ⟨by rw [hc]; rfl, by rw [hc]; exact e 0, by rw [hc]; exact e 1, by rw [hc]; exact e 2, by rw [hc]; exact e 3, fun j v hv => ?_, fun j v hv => ?_⟩
  · rw [hc]
    unfold deedC
    have hj : j < 32 := by have := (List.getElem?_eq_some_iff.1 hv).1; simpa [q.2] using this
    rw [List.getElem?_append_right (by simp), List.getElem?_append_left (by simp [q.2]; omega), ← hv]
    congr 1
    simp
  · rw [hc, show 36 + j = 33 + (3 + j) from by omega, e, ← hv]
    simp only [List.cons_append, List.nil_append, regC]
    rw [show 3 + j = j + 3 from by omega]
    rfl
theorem range_drewN {w : World} {g o n : Nat} {cs : List Value} (h : w.rangeAt g o cs) : (w.drewN n).rangeAt g o cs := h
theorem keepD {W0 W : World} {N n A : Nat} {m : H32 → Option Value} {q : H32} {X : Value} (hm : MapIs HC W0 N m n) (hr : W0.rangeAt A 1 (q.1.map bv)) (hX : .tuple #[(m q).getD (.slice none 0 0), .bool (m q).isSome] = X) (h : Below W0.heap.size W0 W) :
    (∀ (b o : Nat), b < W0.heap.size → W.cell? ⟨b, o, none⟩ = W0.cell? ⟨b, o, none⟩) ∧ W.rangeAt A 1 (q.1.map bv) ∧ (Instr.lookup 76 (.map (some N)) (.agg (q.1.map bv).toArray) true).run Try.prog W = .ok X W :=
  ⟨cellB h, range_bel hr h, hX ▸ lookB W N n m q (map_bel hm h)⟩

theorem map_len {w : World} {B n : Nat} {m : H32 → Option Value} {t e ty : TypeId} (h : MapIs HC w B m n) (ht : (Try.prog).underlying t = some (.map 33 e)) : (Builtin.len_ #[t] ty #[.map (some B)]).run Try.prog w = .ok (.int .i64 n) w := by
  obtain ⟨es, clk, hb, hs, hn, _⟩ := h
  subst hn
  simp [Builtin.len_, run_underlying ht, MapKept.run_getObj_map hb, goInt, Result.andThen]

set_option maxRecDepth 8000 in
theorem refuses_get (D A B nB : Nat) (f : Fd) (mB : H32 → Option Value) (q : H32) (da ks : Value) (n cnt : Int) (tag : H32) (w : World) (hD : DevAt w D f) (hA : DeedAt w A 1 q da ks n cnt tag) (hfB : f.bm = .map (some B)) (hB : MapIs HC w B mB nB)
    (xo : Value) (hxo : (mB q).getD (.slice none 0 0) = xo) (hxb : (mB q).isSome = true) :
    Calls Try.prog 63 #[.pointer (some ⟨D, 0, none⟩), .pointer (some ⟨A, 0, none⟩)] w fun e w' => e = .returned (.int .i64 0) ∧ ∃ k, w' = w.drewN k := by
  obtain ⟨hc0, hc1, hc2, hc3, hc4, -⟩ := dev_c hD
  obtain ⟨ha0, ha33, ha34, ha35, ha36, hak, har⟩ := deed_c hA
  rw [hfB] at hc2
  have hDlt : D < w.heap.size := World.block_lt_of_cell? w _ hc2
  have hAlt : A < w.heap.size := World.block_lt_of_cell? w _ ha0
  have HB := Lib.hid hB
  have HK := Lib.hid hak
  have HXO := Lib.hid hxo
  have HXB := Lib.hid hxb
  have hql := q_len q
  have hqu := Try.underlying33
  have hqi := hash_info q
  clear hD hA hfB hB hak har hxo hxb
  go_enter Try.func63, Try.ntmps63
  go_wp2_with fail
  go_region_held3 (fun W => (∀ (b o : Nat), b < w.heap.size → W.cell? ⟨b, o, none⟩ = w.cell? ⟨b, o, none⟩) ∧ W.rangeAt A 1 (q.1.map bv) ∧ (Instr.lookup 76 (.map (some B)) (.agg (q.1.map bv).toArray) true).run Try.prog W = .ok (.tuple #[xo, .bool true]) W)
    (exact keepD HB.out HK.out (by rw [HXO.out, HXB.out]) (by (repeat (first | exact Below.refl _ _ | refine bg_al ?_ | refine bg_gr ?_ | refine bg_drn ?_ | refine bg_dr ?_ | assumption)))) (fail)
  go_wp2_with fail
  go_ret
  exact ⟨rfl, 1, rfl⟩

set_option maxRecDepth 8000 in
theorem refuses_get_no (D A B nB : Nat) (f : Fd) (mB : H32 → Option Value) (q : H32) (da ks : Value) (n cnt : Int) (tag : H32) (w : World) (hD : DevAt w D f) (hA : DeedAt w A 1 q da ks n cnt tag) (hfB : f.bm = .map (some B)) (hB : MapIs HC w B mB nB)
    (xo : Value) (hxo : (mB q).getD (.slice none 0 0) = xo) (hxb : (mB q).isSome = false) :
    Calls Try.prog 63 #[.pointer (some ⟨D, 0, none⟩), .pointer (some ⟨A, 0, none⟩)] w fun e w' => e = .returned (.int .i64 81) ∧ ∃ k, w' = w.drewN k := by
  obtain ⟨hc0, hc1, hc2, hc3, hc4, -⟩ := dev_c hD
  obtain ⟨ha0, ha33, ha34, ha35, ha36, hak, har⟩ := deed_c hA
  rw [hfB] at hc2
  have hDlt : D < w.heap.size := World.block_lt_of_cell? w _ hc2
  have hAlt : A < w.heap.size := World.block_lt_of_cell? w _ ha0
  have HB := Lib.hid hB
  have HK := Lib.hid hak
  have HXO := Lib.hid hxo
  have HXB := Lib.hid hxb
  have hql := q_len q
  have hqu := Try.underlying33
  have hqi := hash_info q
  clear hD hA hfB hB hak har hxo hxb
  go_enter Try.func63, Try.ntmps63
  go_wp2_with fail
  go_region_held3 (fun W => (∀ (b o : Nat), b < w.heap.size → W.cell? ⟨b, o, none⟩ = w.cell? ⟨b, o, none⟩) ∧ W.rangeAt A 1 (q.1.map bv) ∧ (Instr.lookup 76 (.map (some B)) (.agg (q.1.map bv).toArray) true).run Try.prog W = .ok (.tuple #[xo, .bool false]) W)
    (exact keepD HB.out HK.out (by rw [HXO.out, HXB.out]) (by (repeat (first | exact Below.refl _ _ | refine bg_al ?_ | refine bg_gr ?_ | refine bg_drn ?_ | refine bg_dr ?_ | assumption)))) (fail)
  go_wp2_with fail
  go_ret
  exact ⟨rfl, 1, rfl⟩

set_option maxRecDepth 8000 in
theorem refuses_delete (D A B nB : Nat) (f : Fd) (mB : H32 → Option Value) (q : H32) (da ks : Value) (n cnt : Int) (tag : H32) (w : World) (hD : DevAt w D f) (hA : DeedAt w A 3 q da ks n cnt tag) (hfB : f.bm = .map (some B)) (hB : MapIs HC w B mB nB)
    (xo : Value) (hxo : (mB q).getD (.slice none 0 0) = xo) (hxb : (mB q).isSome = true) :
    Calls Try.prog 63 #[.pointer (some ⟨D, 0, none⟩), .pointer (some ⟨A, 0, none⟩)] w fun e w' => e = .returned (.int .i64 0) ∧ ∃ k, w' = w.drewN k := by
  obtain ⟨hc0, hc1, hc2, hc3, hc4, -⟩ := dev_c hD
  obtain ⟨ha0, ha33, ha34, ha35, ha36, hak, har⟩ := deed_c hA
  rw [hfB] at hc2
  have hDlt : D < w.heap.size := World.block_lt_of_cell? w _ hc2
  have hAlt : A < w.heap.size := World.block_lt_of_cell? w _ ha0
  have HB := Lib.hid hB
  have HK := Lib.hid hak
  have HXO := Lib.hid hxo
  have HXB := Lib.hid hxb
  have hql := q_len q
  have hqu := Try.underlying33
  have hqi := hash_info q
  clear hD hA hfB hB hak har hxo hxb
  go_enter Try.func63, Try.ntmps63
  go_wp2_with fail
  go_region_held3 (fun W => (∀ (b o : Nat), b < w.heap.size → W.cell? ⟨b, o, none⟩ = w.cell? ⟨b, o, none⟩) ∧ W.rangeAt A 1 (q.1.map bv) ∧ (Instr.lookup 76 (.map (some B)) (.agg (q.1.map bv).toArray) true).run Try.prog W = .ok (.tuple #[xo, .bool true]) W)
    (exact keepD HB.out HK.out (by rw [HXO.out, HXB.out]) (by (repeat (first | exact Below.refl _ _ | refine bg_al ?_ | refine bg_gr ?_ | refine bg_drn ?_ | refine bg_dr ?_ | assumption)))) (fail)
  go_wp2_with fail
  go_ret
  exact ⟨rfl, 1, rfl⟩

set_option maxRecDepth 8000 in
theorem refuses_delete_no (D A B nB : Nat) (f : Fd) (mB : H32 → Option Value) (q : H32) (da ks : Value) (n cnt : Int) (tag : H32) (w : World) (hD : DevAt w D f) (hA : DeedAt w A 3 q da ks n cnt tag) (hfB : f.bm = .map (some B)) (hB : MapIs HC w B mB nB)
    (xo : Value) (hxo : (mB q).getD (.slice none 0 0) = xo) (hxb : (mB q).isSome = false) :
    Calls Try.prog 63 #[.pointer (some ⟨D, 0, none⟩), .pointer (some ⟨A, 0, none⟩)] w fun e w' => e = .returned (.int .i64 81) ∧ ∃ k, w' = w.drewN k := by
  obtain ⟨hc0, hc1, hc2, hc3, hc4, -⟩ := dev_c hD
  obtain ⟨ha0, ha33, ha34, ha35, ha36, hak, har⟩ := deed_c hA
  rw [hfB] at hc2
  have hDlt : D < w.heap.size := World.block_lt_of_cell? w _ hc2
  have hAlt : A < w.heap.size := World.block_lt_of_cell? w _ ha0
  have HB := Lib.hid hB
  have HK := Lib.hid hak
  have HXO := Lib.hid hxo
  have HXB := Lib.hid hxb
  have hql := q_len q
  have hqu := Try.underlying33
  have hqi := hash_info q
  clear hD hA hfB hB hak har hxo hxb
  go_enter Try.func63, Try.ntmps63
  go_wp2_with fail
  go_region_held3 (fun W => (∀ (b o : Nat), b < w.heap.size → W.cell? ⟨b, o, none⟩ = w.cell? ⟨b, o, none⟩) ∧ W.rangeAt A 1 (q.1.map bv) ∧ (Instr.lookup 76 (.map (some B)) (.agg (q.1.map bv).toArray) true).run Try.prog W = .ok (.tuple #[xo, .bool false]) W)
    (exact keepD HB.out HK.out (by rw [HXO.out, HXB.out]) (by (repeat (first | exact Below.refl _ _ | refine bg_al ?_ | refine bg_gr ?_ | refine bg_drn ?_ | refine bg_dr ?_ | assumption)))) (fail)
  go_wp2_with fail
  go_ret
  exact ⟨rfl, 1, rfl⟩

set_option maxRecDepth 8000 in
theorem refuses_list (D A B nB : Nat) (f : Fd) (mB : H32 → Option Value) (q : H32) (da ks : Value) (n cnt : Int) (tag : H32) (w : World) (hD : DevAt w D f) (hA : DeedAt w A 4 q da ks n cnt tag) (hfB : f.bm = .map (some B)) (hB : MapIs HC w B mB nB)
    (xo : Value) (hxo : (mB q).getD (.slice none 0 0) = xo) (xb : Bool) (hxb : (mB q).isSome = xb) :
    Calls Try.prog 63 #[.pointer (some ⟨D, 0, none⟩), .pointer (some ⟨A, 0, none⟩)] w fun e w' => e = .returned (.int .i64 0) ∧ ∃ k, w' = w.drewN k := by
  obtain ⟨hc0, hc1, hc2, hc3, hc4, -⟩ := dev_c hD
  obtain ⟨ha0, ha33, ha34, ha35, ha36, hak, har⟩ := deed_c hA
  rw [hfB] at hc2
  have hDlt : D < w.heap.size := World.block_lt_of_cell? w _ hc2
  have hAlt : A < w.heap.size := World.block_lt_of_cell? w _ ha0
  have HB := Lib.hid hB
  have HK := Lib.hid hak
  have HXO := Lib.hid hxo
  have HXB := Lib.hid hxb
  have hql := q_len q
  have hqu := Try.underlying33
  have hqi := hash_info q
  clear hD hA hfB hB hak har hxo hxb
  go_enter Try.func63, Try.ntmps63
  go_wp2_with fail
  go_region_held3 (fun W => (∀ (b o : Nat), b < w.heap.size → W.cell? ⟨b, o, none⟩ = w.cell? ⟨b, o, none⟩) ∧ W.rangeAt A 1 (q.1.map bv) ∧ (Instr.lookup 76 (.map (some B)) (.agg (q.1.map bv).toArray) true).run Try.prog W = .ok (.tuple #[xo, .bool xb]) W)
    (exact keepD HB.out HK.out (by rw [HXO.out, HXB.out]) (by (repeat (first | exact Below.refl _ _ | refine bg_al ?_ | refine bg_gr ?_ | refine bg_drn ?_ | refine bg_dr ?_ | assumption)))) (fail)
  go_wp2_with fail
  go_ret
  exact ⟨rfl, 1, rfl⟩

set_option maxRecDepth 8000 in
theorem refuses_read (D A B nB : Nat) (f : Fd) (mB : H32 → Option Value) (q : H32) (da ks : Value) (n cnt : Int) (tag : H32) (w : World) (hD : DevAt w D f) (hA : DeedAt w A 5 q da ks n cnt tag) (hfB : f.bm = .map (some B)) (hB : MapIs HC w B mB nB)
    (xo : Value) (hxo : (mB q).getD (.slice none 0 0) = xo) (xb : Bool) (hxb : (mB q).isSome = xb) :
    Calls Try.prog 63 #[.pointer (some ⟨D, 0, none⟩), .pointer (some ⟨A, 0, none⟩)] w fun e w' => e = .returned (.int .i64 0) ∧ ∃ k, w' = w.drewN k := by
  obtain ⟨hc0, hc1, hc2, hc3, hc4, -⟩ := dev_c hD
  obtain ⟨ha0, ha33, ha34, ha35, ha36, hak, har⟩ := deed_c hA
  rw [hfB] at hc2
  have hDlt : D < w.heap.size := World.block_lt_of_cell? w _ hc2
  have hAlt : A < w.heap.size := World.block_lt_of_cell? w _ ha0
  have HB := Lib.hid hB
  have HK := Lib.hid hak
  have HXO := Lib.hid hxo
  have HXB := Lib.hid hxb
  have hql := q_len q
  have hqu := Try.underlying33
  have hqi := hash_info q
  clear hD hA hfB hB hak har hxo hxb
  go_enter Try.func63, Try.ntmps63
  go_wp2_with fail
  go_region_held3 (fun W => (∀ (b o : Nat), b < w.heap.size → W.cell? ⟨b, o, none⟩ = w.cell? ⟨b, o, none⟩) ∧ W.rangeAt A 1 (q.1.map bv) ∧ (Instr.lookup 76 (.map (some B)) (.agg (q.1.map bv).toArray) true).run Try.prog W = .ok (.tuple #[xo, .bool xb]) W)
    (exact keepD HB.out HK.out (by rw [HXO.out, HXB.out]) (by (repeat (first | exact Below.refl _ _ | refine bg_al ?_ | refine bg_gr ?_ | refine bg_drn ?_ | refine bg_dr ?_ | assumption)))) (fail)
  go_wp2_with fail
  go_ret
  exact ⟨rfl, 1, rfl⟩

set_option maxRecDepth 8000 in
theorem refuses_load (D A B nB : Nat) (f : Fd) (mB : H32 → Option Value) (q : H32) (da ks : Value) (n cnt : Int) (tag : H32) (w : World) (hD : DevAt w D f) (hA : DeedAt w A 9 q da ks n cnt tag) (hfB : f.bm = .map (some B)) (hB : MapIs HC w B mB nB)
    (xo : Value) (hxo : (mB q).getD (.slice none 0 0) = xo) (xb : Bool) (hxb : (mB q).isSome = xb) :
    Calls Try.prog 63 #[.pointer (some ⟨D, 0, none⟩), .pointer (some ⟨A, 0, none⟩)] w fun e w' => e = .returned (.int .i64 0) ∧ ∃ k, w' = w.drewN k := by
  obtain ⟨hc0, hc1, hc2, hc3, hc4, -⟩ := dev_c hD
  obtain ⟨ha0, ha33, ha34, ha35, ha36, hak, har⟩ := deed_c hA
  rw [hfB] at hc2
  have hDlt : D < w.heap.size := World.block_lt_of_cell? w _ hc2
  have hAlt : A < w.heap.size := World.block_lt_of_cell? w _ ha0
  have HB := Lib.hid hB
  have HK := Lib.hid hak
  have HXO := Lib.hid hxo
  have HXB := Lib.hid hxb
  have hql := q_len q
  have hqu := Try.underlying33
  have hqi := hash_info q
  clear hD hA hfB hB hak har hxo hxb
  go_enter Try.func63, Try.ntmps63
  go_wp2_with fail
  go_region_held3 (fun W => (∀ (b o : Nat), b < w.heap.size → W.cell? ⟨b, o, none⟩ = w.cell? ⟨b, o, none⟩) ∧ W.rangeAt A 1 (q.1.map bv) ∧ (Instr.lookup 76 (.map (some B)) (.agg (q.1.map bv).toArray) true).run Try.prog W = .ok (.tuple #[xo, .bool xb]) W)
    (exact keepD HB.out HK.out (by rw [HXO.out, HXB.out]) (by (repeat (first | exact Below.refl _ _ | refine bg_al ?_ | refine bg_gr ?_ | refine bg_drn ?_ | refine bg_dr ?_ | assumption)))) (fail)
  go_wp2_with fail
  go_ret
  exact ⟨rfl, 1, rfl⟩

set_option maxRecDepth 8000 in
theorem refuses_put (D A B nB : Nat) (f : Fd) (mB : H32 → Option Value) (q : H32) (da ks : Value) (n cnt : Int) (tag : H32) (w : World) (hD : DevAt w D f) (hA : DeedAt w A 2 q da ks n cnt tag) (hfB : f.bm = .map (some B)) (hB : MapIs HC w B mB nB)
    (xo : Value) (hxo : (mB q).getD (.slice none 0 0) = xo) (hxb : (mB q).isSome = false) (hroom : (nB : Int) < f.slots) :
    Calls Try.prog 63 #[.pointer (some ⟨D, 0, none⟩), .pointer (some ⟨A, 0, none⟩)] w fun e w' => e = .returned (.int .i64 0) ∧ ∃ k, w' = w.drewN k := by
  have hrm : ¬ f.slots ≤ (nB : Int) := by omega
  clear hroom
  obtain ⟨hc0, hc1, hc2, hc3, hc4, -⟩ := dev_c hD
  obtain ⟨ha0, ha33, ha34, ha35, ha36, hak, har⟩ := deed_c hA
  rw [hfB] at hc2
  have hDlt : D < w.heap.size := World.block_lt_of_cell? w _ hc2
  have hAlt : A < w.heap.size := World.block_lt_of_cell? w _ ha0
  have HB := Lib.hid hB
  have HK := Lib.hid hak
  have HXO := Lib.hid hxo
  have HXB := Lib.hid hxb
  have hql := q_len q
  have hqu := Try.underlying33
  have hqi := hash_info q
  clear hD hA hfB hB hak har hxo hxb
  go_enter Try.func63, Try.ntmps63
  go_wp2_with fail
  go_region_held3 (fun W => (∀ (b o : Nat), b < w.heap.size → W.cell? ⟨b, o, none⟩ = w.cell? ⟨b, o, none⟩) ∧ W.rangeAt A 1 (q.1.map bv) ∧ (Instr.lookup 76 (.map (some B)) (.agg (q.1.map bv).toArray) true).run Try.prog W = .ok (.tuple #[xo, .bool false]) W)
    (exact keepD HB.out HK.out (by rw [HXO.out, HXB.out]) (by (repeat (first | exact Below.refl _ _ | refine bg_al ?_ | refine bg_gr ?_ | refine bg_drn ?_ | refine bg_dr ?_ | assumption)))) (fail)
  go_wp2_with fail
  go_region_held3 (fun W => (∀ (b o : Nat), b < w.heap.size → W.cell? ⟨b, o, none⟩ = w.cell? ⟨b, o, none⟩) ∧ (Builtin.len_ #[76] 3 #[.map (some B)]).run Try.prog W = .ok (.int .i64 nB) W)
    (exact ⟨cellB (by (repeat (first | exact Below.refl _ _ | refine bg_al ?_ | refine bg_gr ?_ | refine bg_drn ?_ | refine bg_dr ?_ | assumption))), map_len (map_bel HB.out (by (repeat (first | exact Below.refl _ _ | refine bg_al ?_ | refine bg_gr ?_ | refine bg_drn ?_ | refine bg_dr ?_ | assumption)))) Try.underlying76⟩) (fail)
  go_wp2_with fail
  go_ret
  exact ⟨rfl, 2, rfl⟩

set_option maxRecDepth 8000 in
theorem refuses_put_no (D A B nB : Nat) (f : Fd) (mB : H32 → Option Value) (q : H32) (da ks : Value) (n cnt : Int) (tag : H32) (w : World) (hD : DevAt w D f) (hA : DeedAt w A 2 q da ks n cnt tag) (hfB : f.bm = .map (some B)) (hB : MapIs HC w B mB nB)
    (xo : Value) (hxo : (mB q).getD (.slice none 0 0) = xo) (hxb : (mB q).isSome = false) (hroom : f.slots ≤ (nB : Int)) :
    Calls Try.prog 63 #[.pointer (some ⟨D, 0, none⟩), .pointer (some ⟨A, 0, none⟩)] w fun e w' => e = .returned (.int .i64 6) ∧ ∃ k, w' = w.drewN k := by
  obtain ⟨hc0, hc1, hc2, hc3, hc4, -⟩ := dev_c hD
  obtain ⟨ha0, ha33, ha34, ha35, ha36, hak, har⟩ := deed_c hA
  rw [hfB] at hc2
  have hDlt : D < w.heap.size := World.block_lt_of_cell? w _ hc2
  have hAlt : A < w.heap.size := World.block_lt_of_cell? w _ ha0
  have HB := Lib.hid hB
  have HK := Lib.hid hak
  have HXO := Lib.hid hxo
  have HXB := Lib.hid hxb
  have hql := q_len q
  have hqu := Try.underlying33
  have hqi := hash_info q
  clear hD hA hfB hB hak har hxo hxb
  go_enter Try.func63, Try.ntmps63
  go_wp2_with fail
  go_region_held3 (fun W => (∀ (b o : Nat), b < w.heap.size → W.cell? ⟨b, o, none⟩ = w.cell? ⟨b, o, none⟩) ∧ W.rangeAt A 1 (q.1.map bv) ∧ (Instr.lookup 76 (.map (some B)) (.agg (q.1.map bv).toArray) true).run Try.prog W = .ok (.tuple #[xo, .bool false]) W)
    (exact keepD HB.out HK.out (by rw [HXO.out, HXB.out]) (by (repeat (first | exact Below.refl _ _ | refine bg_al ?_ | refine bg_gr ?_ | refine bg_drn ?_ | refine bg_dr ?_ | assumption)))) (fail)
  go_wp2_with fail
  go_region_held3 (fun W => (∀ (b o : Nat), b < w.heap.size → W.cell? ⟨b, o, none⟩ = w.cell? ⟨b, o, none⟩) ∧ (Builtin.len_ #[76] 3 #[.map (some B)]).run Try.prog W = .ok (.int .i64 nB) W)
    (exact ⟨cellB (by (repeat (first | exact Below.refl _ _ | refine bg_al ?_ | refine bg_gr ?_ | refine bg_drn ?_ | refine bg_dr ?_ | assumption))), map_len (map_bel HB.out (by (repeat (first | exact Below.refl _ _ | refine bg_al ?_ | refine bg_gr ?_ | refine bg_drn ?_ | refine bg_dr ?_ | assumption)))) Try.underlying76⟩) (fail)
  go_wp2_with fail
  go_ret
  exact ⟨rfl, 2, rfl⟩

set_option maxRecDepth 8000 in
theorem refuses_put_old (D A B nB : Nat) (f : Fd) (mB : H32 → Option Value) (q : H32) (da ks : Value) (n cnt : Int) (tag : H32) (w : World) (hD : DevAt w D f) (hA : DeedAt w A 2 q da ks n cnt tag) (hfB : f.bm = .map (some B)) (hB : MapIs HC w B mB nB)
    (xo : Value) (hxo : (mB q).getD (.slice none 0 0) = xo) (hxb : (mB q).isSome = true) :
    Calls Try.prog 63 #[.pointer (some ⟨D, 0, none⟩), .pointer (some ⟨A, 0, none⟩)] w fun e w' => e = .returned (.int .i64 0) ∧ ∃ k, w' = w.drewN k := by
  obtain ⟨hc0, hc1, hc2, hc3, hc4, -⟩ := dev_c hD
  obtain ⟨ha0, ha33, ha34, ha35, ha36, hak, har⟩ := deed_c hA
  rw [hfB] at hc2
  have hDlt : D < w.heap.size := World.block_lt_of_cell? w _ hc2
  have hAlt : A < w.heap.size := World.block_lt_of_cell? w _ ha0
  have HB := Lib.hid hB
  have HK := Lib.hid hak
  have HXO := Lib.hid hxo
  have HXB := Lib.hid hxb
  have hql := q_len q
  have hqu := Try.underlying33
  have hqi := hash_info q
  clear hD hA hfB hB hak har hxo hxb
  go_enter Try.func63, Try.ntmps63
  go_wp2_with fail
  go_region_held3 (fun W => (∀ (b o : Nat), b < w.heap.size → W.cell? ⟨b, o, none⟩ = w.cell? ⟨b, o, none⟩) ∧ W.rangeAt A 1 (q.1.map bv) ∧ (Instr.lookup 76 (.map (some B)) (.agg (q.1.map bv).toArray) true).run Try.prog W = .ok (.tuple #[xo, .bool true]) W)
    (exact keepD HB.out HK.out (by rw [HXO.out, HXB.out]) (by (repeat (first | exact Below.refl _ _ | refine bg_al ?_ | refine bg_gr ?_ | refine bg_drn ?_ | refine bg_dr ?_ | assumption)))) (fail)
  go_wp2_with fail
  go_quiet (fail)
  go_wp2_with fail
  go_ret
  refine ⟨rfl, ?_⟩
  first | exact ⟨2, rfl⟩ | exact dq _ _ _ | exact ⟨_, rfl⟩

set_option maxRecDepth 8000 in
theorem refuses_append (D A B nB : Nat) (f : Fd) (mB : H32 → Option Value) (q : H32) (da ks : Value) (n cnt : Int) (tag : H32) (w : World) (hD : DevAt w D f) (hA : DeedAt w A 6 q da ks n cnt tag) (hfB : f.bm = .map (some B)) (hB : MapIs HC w B mB nB)
    (xo : Value) (hxo : (mB q).getD (.slice none 0 0) = xo) (xb : Bool) (hxb : (mB q).isSome = xb) (lA : Option Addr) (ln lc : Nat) (hlog : f.log = .slice lA ln lc) (dA : Option Addr) (dn dc : Nat) (hda : da = .slice dA dn dc) (hbig : ln + dn ≤ 1099511627776) (hroom : (ln : Int) + dn ≤ f.room) :
    Calls Try.prog 63 #[.pointer (some ⟨D, 0, none⟩), .pointer (some ⟨A, 0, none⟩)] w fun e w' => e = .returned (.int .i64 0) ∧ ∃ k, w' = w.drewN k := by
  subst hda
  have hw1 : IntKind.i64.wrap ((ln : Int) + (dn : Int)) = (ln : Int) + (dn : Int) := IntWalk.i64_in _ (by omega)
  have hrm : ¬ f.room < (ln : Int) + (dn : Int) := by omega
  clear hroom
  obtain ⟨hc0, hc1, hc2, hc3, hc4, -⟩ := dev_c hD
  obtain ⟨ha0, ha33, ha34, ha35, ha36, hak, har⟩ := deed_c hA
  rw [hfB] at hc2
  rw [hlog] at hc3
  clear hlog
  have hDlt : D < w.heap.size := World.block_lt_of_cell? w _ hc2
  have hAlt : A < w.heap.size := World.block_lt_of_cell? w _ ha0
  have HB := Lib.hid hB
  have HK := Lib.hid hak
  have HXO := Lib.hid hxo
  have HXB := Lib.hid hxb
  have hql := q_len q
  have hqu := Try.underlying33
  have hqi := hash_info q
  clear hD hA hfB hB hak har hxo hxb
  go_enter Try.func63, Try.ntmps63
  go_wp2_with fail
  go_region_held3 (fun W => (∀ (b o : Nat), b < w.heap.size → W.cell? ⟨b, o, none⟩ = w.cell? ⟨b, o, none⟩) ∧ W.rangeAt A 1 (q.1.map bv) ∧ (Instr.lookup 76 (.map (some B)) (.agg (q.1.map bv).toArray) true).run Try.prog W = .ok (.tuple #[xo, .bool xb]) W)
    (exact keepD HB.out HK.out (by rw [HXO.out, HXB.out]) (by (repeat (first | exact Below.refl _ _ | refine bg_al ?_ | refine bg_gr ?_ | refine bg_drn ?_ | refine bg_dr ?_ | assumption)))) (fail)
  go_wp2_with fail
  go_region_held3 (fun W => (∀ (b o : Nat), b < w.heap.size → W.cell? ⟨b, o, none⟩ = w.cell? ⟨b, o, none⟩))
    (exact cellB (by (repeat (first | exact Below.refl _ _ | refine bg_al ?_ | refine bg_gr ?_ | refine bg_drn ?_ | refine bg_dr ?_ | assumption)))) (fail)
  go_wp2_with fail
  go_ret
  exact ⟨rfl, 2, rfl⟩

set_option maxRecDepth 8000 in
theorem refuses_append_no (D A B nB : Nat) (f : Fd) (mB : H32 → Option Value) (q : H32) (da ks : Value) (n cnt : Int) (tag : H32) (w : World) (hD : DevAt w D f) (hA : DeedAt w A 6 q da ks n cnt tag) (hfB : f.bm = .map (some B)) (hB : MapIs HC w B mB nB)
    (xo : Value) (hxo : (mB q).getD (.slice none 0 0) = xo) (xb : Bool) (hxb : (mB q).isSome = xb) (lA : Option Addr) (ln lc : Nat) (hlog : f.log = .slice lA ln lc) (dA : Option Addr) (dn dc : Nat) (hda : da = .slice dA dn dc) (hbig : ln + dn ≤ 1099511627776) (hroom : f.room < (ln : Int) + dn) :
    Calls Try.prog 63 #[.pointer (some ⟨D, 0, none⟩), .pointer (some ⟨A, 0, none⟩)] w fun e w' => e = .returned (.int .i64 6) ∧ ∃ k, w' = w.drewN k := by
  subst hda
  have hw1 : IntKind.i64.wrap ((ln : Int) + (dn : Int)) = (ln : Int) + (dn : Int) := IntWalk.i64_in _ (by omega)
  obtain ⟨hc0, hc1, hc2, hc3, hc4, -⟩ := dev_c hD
  obtain ⟨ha0, ha33, ha34, ha35, ha36, hak, har⟩ := deed_c hA
  rw [hfB] at hc2
  rw [hlog] at hc3
  clear hlog
  have hDlt : D < w.heap.size := World.block_lt_of_cell? w _ hc2
  have hAlt : A < w.heap.size := World.block_lt_of_cell? w _ ha0
  have HB := Lib.hid hB
  have HK := Lib.hid hak
  have HXO := Lib.hid hxo
  have HXB := Lib.hid hxb
  have hql := q_len q
  have hqu := Try.underlying33
  have hqi := hash_info q
  clear hD hA hfB hB hak har hxo hxb
  go_enter Try.func63, Try.ntmps63
  go_wp2_with fail
  go_region_held3 (fun W => (∀ (b o : Nat), b < w.heap.size → W.cell? ⟨b, o, none⟩ = w.cell? ⟨b, o, none⟩) ∧ W.rangeAt A 1 (q.1.map bv) ∧ (Instr.lookup 76 (.map (some B)) (.agg (q.1.map bv).toArray) true).run Try.prog W = .ok (.tuple #[xo, .bool xb]) W)
    (exact keepD HB.out HK.out (by rw [HXO.out, HXB.out]) (by (repeat (first | exact Below.refl _ _ | refine bg_al ?_ | refine bg_gr ?_ | refine bg_drn ?_ | refine bg_dr ?_ | assumption)))) (fail)
  go_wp2_with fail
  go_region_held3 (fun W => (∀ (b o : Nat), b < w.heap.size → W.cell? ⟨b, o, none⟩ = w.cell? ⟨b, o, none⟩))
    (exact cellB (by (repeat (first | exact Below.refl _ _ | refine bg_al ?_ | refine bg_gr ?_ | refine bg_drn ?_ | refine bg_dr ?_ | assumption)))) (fail)
  go_wp2_with fail
  go_ret
  exact ⟨rfl, 2, rfl⟩

set_option maxRecDepth 8000 in
theorem refuses_trim (D A B nB : Nat) (f : Fd) (mB : H32 → Option Value) (q : H32) (da ks : Value) (n cnt : Int) (tag : H32) (w : World) (hD : DevAt w D f) (hA : DeedAt w A 7 q da ks n cnt tag) (hfB : f.bm = .map (some B)) (hB : MapIs HC w B mB nB)
    (xo : Value) (hxo : (mB q).getD (.slice none 0 0) = xo) (xb : Bool) (hxb : (mB q).isSome = xb) (lA : Option Addr) (ln lc : Nat) (hlog : f.log = .slice lA ln lc) (h0 : 0 ≤ n) (h1 : n ≤ (ln : Int)) :
    Calls Try.prog 63 #[.pointer (some ⟨D, 0, none⟩), .pointer (some ⟨A, 0, none⟩)] w fun e w' => e = .returned (.int .i64 0) ∧ ∃ k, w' = w.drewN k := by
  have g0 : decide (n < 0) = false := by simp; omega
  have g1 : ¬ (ln : Int) < n := by omega
  clear h0 h1
  obtain ⟨hc0, hc1, hc2, hc3, hc4, -⟩ := dev_c hD
  obtain ⟨ha0, ha33, ha34, ha35, ha36, hak, har⟩ := deed_c hA
  rw [hfB] at hc2
  rw [hlog] at hc3
  clear hlog
  have hDlt : D < w.heap.size := World.block_lt_of_cell? w _ hc2
  have hAlt : A < w.heap.size := World.block_lt_of_cell? w _ ha0
  have HB := Lib.hid hB
  have HK := Lib.hid hak
  have HXO := Lib.hid hxo
  have HXB := Lib.hid hxb
  have hql := q_len q
  have hqu := Try.underlying33
  have hqi := hash_info q
  clear hD hA hfB hB hak har hxo hxb
  go_enter Try.func63, Try.ntmps63
  go_wp2_with fail
  go_region_held3 (fun W => (∀ (b o : Nat), b < w.heap.size → W.cell? ⟨b, o, none⟩ = w.cell? ⟨b, o, none⟩) ∧ W.rangeAt A 1 (q.1.map bv) ∧ (Instr.lookup 76 (.map (some B)) (.agg (q.1.map bv).toArray) true).run Try.prog W = .ok (.tuple #[xo, .bool xb]) W)
    (exact keepD HB.out HK.out (by rw [HXO.out, HXB.out]) (by (repeat (first | exact Below.refl _ _ | refine bg_al ?_ | refine bg_gr ?_ | refine bg_drn ?_ | refine bg_dr ?_ | assumption)))) (fail)
  go_wp2_with fail
  go_region_held3 (fun W => (∀ (b o : Nat), b < w.heap.size → W.cell? ⟨b, o, none⟩ = w.cell? ⟨b, o, none⟩))
    (exact cellB (by (repeat (first | exact Below.refl _ _ | refine bg_al ?_ | refine bg_gr ?_ | refine bg_drn ?_ | refine bg_dr ?_ | assumption)))) (fail)
  go_wp2_with fail
  go_ret
  exact ⟨rfl, 2, rfl⟩

set_option maxRecDepth 8000 in
theorem refuses_trim_neg (D A B nB : Nat) (f : Fd) (mB : H32 → Option Value) (q : H32) (da ks : Value) (n cnt : Int) (tag : H32) (w : World) (hD : DevAt w D f) (hA : DeedAt w A 7 q da ks n cnt tag) (hfB : f.bm = .map (some B)) (hB : MapIs HC w B mB nB)
    (xo : Value) (hxo : (mB q).getD (.slice none 0 0) = xo) (xb : Bool) (hxb : (mB q).isSome = xb) (lA : Option Addr) (ln lc : Nat) (hlog : f.log = .slice lA ln lc) (h0 : n < 0) :
    Calls Try.prog 63 #[.pointer (some ⟨D, 0, none⟩), .pointer (some ⟨A, 0, none⟩)] w fun e w' => e = .returned (.int .i64 83) ∧ ∃ k, w' = w.drewN k := by
  have g0 : decide (n < 0) = true := by simp; omega
  obtain ⟨hc0, hc1, hc2, hc3, hc4, -⟩ := dev_c hD
  obtain ⟨ha0, ha33, ha34, ha35, ha36, hak, har⟩ := deed_c hA
  rw [hfB] at hc2
  rw [hlog] at hc3
  clear hlog
  have hDlt : D < w.heap.size := World.block_lt_of_cell? w _ hc2
  have hAlt : A < w.heap.size := World.block_lt_of_cell? w _ ha0
  have HB := Lib.hid hB
  have HK := Lib.hid hak
  have HXO := Lib.hid hxo
  have HXB := Lib.hid hxb
  have hql := q_len q
  have hqu := Try.underlying33
  have hqi := hash_info q
  clear hD hA hfB hB hak har hxo hxb
  go_enter Try.func63, Try.ntmps63
  go_wp2_with fail
  go_region_held3 (fun W => (∀ (b o : Nat), b < w.heap.size → W.cell? ⟨b, o, none⟩ = w.cell? ⟨b, o, none⟩) ∧ W.rangeAt A 1 (q.1.map bv) ∧ (Instr.lookup 76 (.map (some B)) (.agg (q.1.map bv).toArray) true).run Try.prog W = .ok (.tuple #[xo, .bool xb]) W)
    (exact keepD HB.out HK.out (by rw [HXO.out, HXB.out]) (by (repeat (first | exact Below.refl _ _ | refine bg_al ?_ | refine bg_gr ?_ | refine bg_drn ?_ | refine bg_dr ?_ | assumption)))) (fail)
  go_wp2_with fail
  go_quiet (fail)
  go_wp2_with fail
  go_ret
  refine ⟨rfl, ?_⟩
  first | exact ⟨2, rfl⟩ | exact dq _ _ _ | exact ⟨_, rfl⟩

set_option maxRecDepth 8000 in
theorem refuses_trim_far (D A B nB : Nat) (f : Fd) (mB : H32 → Option Value) (q : H32) (da ks : Value) (n cnt : Int) (tag : H32) (w : World) (hD : DevAt w D f) (hA : DeedAt w A 7 q da ks n cnt tag) (hfB : f.bm = .map (some B)) (hB : MapIs HC w B mB nB)
    (xo : Value) (hxo : (mB q).getD (.slice none 0 0) = xo) (xb : Bool) (hxb : (mB q).isSome = xb) (lA : Option Addr) (ln lc : Nat) (hlog : f.log = .slice lA ln lc) (h0 : 0 ≤ n) (h1 : (ln : Int) < n) :
    Calls Try.prog 63 #[.pointer (some ⟨D, 0, none⟩), .pointer (some ⟨A, 0, none⟩)] w fun e w' => e = .returned (.int .i64 83) ∧ ∃ k, w' = w.drewN k := by
  have g0 : decide (n < 0) = false := by simp; omega
  clear h0
  obtain ⟨hc0, hc1, hc2, hc3, hc4, -⟩ := dev_c hD
  obtain ⟨ha0, ha33, ha34, ha35, ha36, hak, har⟩ := deed_c hA
  rw [hfB] at hc2
  rw [hlog] at hc3
  clear hlog
  have hDlt : D < w.heap.size := World.block_lt_of_cell? w _ hc2
  have hAlt : A < w.heap.size := World.block_lt_of_cell? w _ ha0
  have HB := Lib.hid hB
  have HK := Lib.hid hak
  have HXO := Lib.hid hxo
  have HXB := Lib.hid hxb
  have hql := q_len q
  have hqu := Try.underlying33
  have hqi := hash_info q
  clear hD hA hfB hB hak har hxo hxb
  go_enter Try.func63, Try.ntmps63
  go_wp2_with fail
  go_region_held3 (fun W => (∀ (b o : Nat), b < w.heap.size → W.cell? ⟨b, o, none⟩ = w.cell? ⟨b, o, none⟩) ∧ W.rangeAt A 1 (q.1.map bv) ∧ (Instr.lookup 76 (.map (some B)) (.agg (q.1.map bv).toArray) true).run Try.prog W = .ok (.tuple #[xo, .bool xb]) W)
    (exact keepD HB.out HK.out (by rw [HXO.out, HXB.out]) (by (repeat (first | exact Below.refl _ _ | refine bg_al ?_ | refine bg_gr ?_ | refine bg_drn ?_ | refine bg_dr ?_ | assumption)))) (fail)
  go_wp2_with fail
  go_region_held3 (fun W => (∀ (b o : Nat), b < w.heap.size → W.cell? ⟨b, o, none⟩ = w.cell? ⟨b, o, none⟩))
    (exact cellB (by (repeat (first | exact Below.refl _ _ | refine bg_al ?_ | refine bg_gr ?_ | refine bg_drn ?_ | refine bg_dr ?_ | assumption)))) (fail)
  go_wp2_with fail
  go_ret
  exact ⟨rfl, 2, rfl⟩

set_option maxRecDepth 8000 in
theorem refuses_cut (D A B nB : Nat) (f : Fd) (mB : H32 → Option Value) (q : H32) (da ks : Value) (n cnt : Int) (tag : H32) (w : World) (hD : DevAt w D f) (hA : DeedAt w A 8 q da ks n cnt tag) (hfB : f.bm = .map (some B)) (hB : MapIs HC w B mB nB)
    (xo : Value) (hxo : (mB q).getD (.slice none 0 0) = xo) (xb : Bool) (hxb : (mB q).isSome = xb) (lA : Option Addr) (ln lc : Nat) (hlog : f.log = .slice lA ln lc) (h0 : 0 ≤ n) (h1 : n ≤ (ln : Int)) :
    Calls Try.prog 63 #[.pointer (some ⟨D, 0, none⟩), .pointer (some ⟨A, 0, none⟩)] w fun e w' => e = .returned (.int .i64 0) ∧ ∃ k, w' = w.drewN k := by
  have g0 : decide (n < 0) = false := by simp; omega
  have g1 : ¬ (ln : Int) < n := by omega
  clear h0 h1
  obtain ⟨hc0, hc1, hc2, hc3, hc4, -⟩ := dev_c hD
  obtain ⟨ha0, ha33, ha34, ha35, ha36, hak, har⟩ := deed_c hA
  rw [hfB] at hc2
  rw [hlog] at hc3
  clear hlog
  have hDlt : D < w.heap.size := World.block_lt_of_cell? w _ hc2
  have hAlt : A < w.heap.size := World.block_lt_of_cell? w _ ha0
  have HB := Lib.hid hB
  have HK := Lib.hid hak
  have HXO := Lib.hid hxo
  have HXB := Lib.hid hxb
  have hql := q_len q
  have hqu := Try.underlying33
  have hqi := hash_info q
  clear hD hA hfB hB hak har hxo hxb
  go_enter Try.func63, Try.ntmps63
  go_wp2_with fail
  go_region_held3 (fun W => (∀ (b o : Nat), b < w.heap.size → W.cell? ⟨b, o, none⟩ = w.cell? ⟨b, o, none⟩) ∧ W.rangeAt A 1 (q.1.map bv) ∧ (Instr.lookup 76 (.map (some B)) (.agg (q.1.map bv).toArray) true).run Try.prog W = .ok (.tuple #[xo, .bool xb]) W)
    (exact keepD HB.out HK.out (by rw [HXO.out, HXB.out]) (by (repeat (first | exact Below.refl _ _ | refine bg_al ?_ | refine bg_gr ?_ | refine bg_drn ?_ | refine bg_dr ?_ | assumption)))) (fail)
  go_wp2_with fail
  go_region_held3 (fun W => (∀ (b o : Nat), b < w.heap.size → W.cell? ⟨b, o, none⟩ = w.cell? ⟨b, o, none⟩))
    (exact cellB (by (repeat (first | exact Below.refl _ _ | refine bg_al ?_ | refine bg_gr ?_ | refine bg_drn ?_ | refine bg_dr ?_ | assumption)))) (fail)
  go_wp2_with fail
  go_ret
  exact ⟨rfl, 2, rfl⟩

set_option maxRecDepth 8000 in
theorem refuses_cut_neg (D A B nB : Nat) (f : Fd) (mB : H32 → Option Value) (q : H32) (da ks : Value) (n cnt : Int) (tag : H32) (w : World) (hD : DevAt w D f) (hA : DeedAt w A 8 q da ks n cnt tag) (hfB : f.bm = .map (some B)) (hB : MapIs HC w B mB nB)
    (xo : Value) (hxo : (mB q).getD (.slice none 0 0) = xo) (xb : Bool) (hxb : (mB q).isSome = xb) (lA : Option Addr) (ln lc : Nat) (hlog : f.log = .slice lA ln lc) (h0 : n < 0) :
    Calls Try.prog 63 #[.pointer (some ⟨D, 0, none⟩), .pointer (some ⟨A, 0, none⟩)] w fun e w' => e = .returned (.int .i64 83) ∧ ∃ k, w' = w.drewN k := by
  have g0 : decide (n < 0) = true := by simp; omega
  obtain ⟨hc0, hc1, hc2, hc3, hc4, -⟩ := dev_c hD
  obtain ⟨ha0, ha33, ha34, ha35, ha36, hak, har⟩ := deed_c hA
  rw [hfB] at hc2
  rw [hlog] at hc3
  clear hlog
  have hDlt : D < w.heap.size := World.block_lt_of_cell? w _ hc2
  have hAlt : A < w.heap.size := World.block_lt_of_cell? w _ ha0
  have HB := Lib.hid hB
  have HK := Lib.hid hak
  have HXO := Lib.hid hxo
  have HXB := Lib.hid hxb
  have hql := q_len q
  have hqu := Try.underlying33
  have hqi := hash_info q
  clear hD hA hfB hB hak har hxo hxb
  go_enter Try.func63, Try.ntmps63
  go_wp2_with fail
  go_region_held3 (fun W => (∀ (b o : Nat), b < w.heap.size → W.cell? ⟨b, o, none⟩ = w.cell? ⟨b, o, none⟩) ∧ W.rangeAt A 1 (q.1.map bv) ∧ (Instr.lookup 76 (.map (some B)) (.agg (q.1.map bv).toArray) true).run Try.prog W = .ok (.tuple #[xo, .bool xb]) W)
    (exact keepD HB.out HK.out (by rw [HXO.out, HXB.out]) (by (repeat (first | exact Below.refl _ _ | refine bg_al ?_ | refine bg_gr ?_ | refine bg_drn ?_ | refine bg_dr ?_ | assumption)))) (fail)
  go_wp2_with fail
  go_quiet (fail)
  go_wp2_with fail
  go_ret
  refine ⟨rfl, ?_⟩
  first | exact ⟨2, rfl⟩ | exact dq _ _ _ | exact ⟨_, rfl⟩

set_option maxRecDepth 8000 in
theorem refuses_cut_far (D A B nB : Nat) (f : Fd) (mB : H32 → Option Value) (q : H32) (da ks : Value) (n cnt : Int) (tag : H32) (w : World) (hD : DevAt w D f) (hA : DeedAt w A 8 q da ks n cnt tag) (hfB : f.bm = .map (some B)) (hB : MapIs HC w B mB nB)
    (xo : Value) (hxo : (mB q).getD (.slice none 0 0) = xo) (xb : Bool) (hxb : (mB q).isSome = xb) (lA : Option Addr) (ln lc : Nat) (hlog : f.log = .slice lA ln lc) (h0 : 0 ≤ n) (h1 : (ln : Int) < n) :
    Calls Try.prog 63 #[.pointer (some ⟨D, 0, none⟩), .pointer (some ⟨A, 0, none⟩)] w fun e w' => e = .returned (.int .i64 83) ∧ ∃ k, w' = w.drewN k := by
  have g0 : decide (n < 0) = false := by simp; omega
  clear h0
  obtain ⟨hc0, hc1, hc2, hc3, hc4, -⟩ := dev_c hD
  obtain ⟨ha0, ha33, ha34, ha35, ha36, hak, har⟩ := deed_c hA
  rw [hfB] at hc2
  rw [hlog] at hc3
  clear hlog
  have hDlt : D < w.heap.size := World.block_lt_of_cell? w _ hc2
  have hAlt : A < w.heap.size := World.block_lt_of_cell? w _ ha0
  have HB := Lib.hid hB
  have HK := Lib.hid hak
  have HXO := Lib.hid hxo
  have HXB := Lib.hid hxb
  have hql := q_len q
  have hqu := Try.underlying33
  have hqi := hash_info q
  clear hD hA hfB hB hak har hxo hxb
  go_enter Try.func63, Try.ntmps63
  go_wp2_with fail
  go_region_held3 (fun W => (∀ (b o : Nat), b < w.heap.size → W.cell? ⟨b, o, none⟩ = w.cell? ⟨b, o, none⟩) ∧ W.rangeAt A 1 (q.1.map bv) ∧ (Instr.lookup 76 (.map (some B)) (.agg (q.1.map bv).toArray) true).run Try.prog W = .ok (.tuple #[xo, .bool xb]) W)
    (exact keepD HB.out HK.out (by rw [HXO.out, HXB.out]) (by (repeat (first | exact Below.refl _ _ | refine bg_al ?_ | refine bg_gr ?_ | refine bg_drn ?_ | refine bg_dr ?_ | assumption)))) (fail)
  go_wp2_with fail
  go_region_held3 (fun W => (∀ (b o : Nat), b < w.heap.size → W.cell? ⟨b, o, none⟩ = w.cell? ⟨b, o, none⟩))
    (exact cellB (by (repeat (first | exact Below.refl _ _ | refine bg_al ?_ | refine bg_gr ?_ | refine bg_drn ?_ | refine bg_dr ?_ | assumption)))) (fail)
  go_wp2_with fail
  go_ret
  exact ⟨rfl, 2, rfl⟩

set_option maxRecDepth 8000 in
theorem refuses_store (D A B nB : Nat) (f : Fd) (mB : H32 → Option Value) (q : H32) (da ks : Value) (n cnt : Int) (tag : H32) (w : World) (hD : DevAt w D f) (hA : DeedAt w A 10 q da ks n cnt tag) (hfB : f.bm = .map (some B)) (hB : MapIs HC w B mB nB)
    (xo : Value) (hxo : (mB q).getD (.slice none 0 0) = xo) (xb : Bool) (hxb : (mB q).isSome = xb) (hnew : f.cnt < cnt) :
    Calls Try.prog 63 #[.pointer (some ⟨D, 0, none⟩), .pointer (some ⟨A, 0, none⟩)] w fun e w' => e = .returned (.int .i64 0) ∧ ∃ k, w' = w.drewN k := by
  have g0 : ¬ cnt ≤ f.cnt := by omega
  clear hnew
  obtain ⟨hc0, hc1, hc2, hc3, hc4, -⟩ := dev_c hD
  obtain ⟨ha0, ha33, ha34, ha35, ha36, hak, har⟩ := deed_c hA
  rw [hfB] at hc2
  have hDlt : D < w.heap.size := World.block_lt_of_cell? w _ hc2
  have hAlt : A < w.heap.size := World.block_lt_of_cell? w _ ha0
  have HB := Lib.hid hB
  have HK := Lib.hid hak
  have HXO := Lib.hid hxo
  have HXB := Lib.hid hxb
  have hql := q_len q
  have hqu := Try.underlying33
  have hqi := hash_info q
  clear hD hA hfB hB hak har hxo hxb
  go_enter Try.func63, Try.ntmps63
  go_wp2_with fail
  go_region_held3 (fun W => (∀ (b o : Nat), b < w.heap.size → W.cell? ⟨b, o, none⟩ = w.cell? ⟨b, o, none⟩) ∧ W.rangeAt A 1 (q.1.map bv) ∧ (Instr.lookup 76 (.map (some B)) (.agg (q.1.map bv).toArray) true).run Try.prog W = .ok (.tuple #[xo, .bool xb]) W)
    (exact keepD HB.out HK.out (by rw [HXO.out, HXB.out]) (by (repeat (first | exact Below.refl _ _ | refine bg_al ?_ | refine bg_gr ?_ | refine bg_drn ?_ | refine bg_dr ?_ | assumption)))) (fail)
  go_wp2_with fail
  go_region_held3 (fun W => (∀ (b o : Nat), b < w.heap.size → W.cell? ⟨b, o, none⟩ = w.cell? ⟨b, o, none⟩))
    (exact cellB (by (repeat (first | exact Below.refl _ _ | refine bg_al ?_ | refine bg_gr ?_ | refine bg_drn ?_ | refine bg_dr ?_ | assumption)))) (fail)
  go_wp2_with fail
  go_ret
  exact ⟨rfl, 2, rfl⟩

set_option maxRecDepth 8000 in
theorem refuses_store_old (D A B nB : Nat) (f : Fd) (mB : H32 → Option Value) (q : H32) (da ks : Value) (n cnt : Int) (tag : H32) (w : World) (hD : DevAt w D f) (hA : DeedAt w A 10 q da ks n cnt tag) (hfB : f.bm = .map (some B)) (hB : MapIs HC w B mB nB)
    (xo : Value) (hxo : (mB q).getD (.slice none 0 0) = xo) (xb : Bool) (hxb : (mB q).isSome = xb) (hnew : cnt ≤ f.cnt) :
    Calls Try.prog 63 #[.pointer (some ⟨D, 0, none⟩), .pointer (some ⟨A, 0, none⟩)] w fun e w' => e = .returned (.int .i64 82) ∧ ∃ k, w' = w.drewN k := by
  obtain ⟨hc0, hc1, hc2, hc3, hc4, -⟩ := dev_c hD
  obtain ⟨ha0, ha33, ha34, ha35, ha36, hak, har⟩ := deed_c hA
  rw [hfB] at hc2
  have hDlt : D < w.heap.size := World.block_lt_of_cell? w _ hc2
  have hAlt : A < w.heap.size := World.block_lt_of_cell? w _ ha0
  have HB := Lib.hid hB
  have HK := Lib.hid hak
  have HXO := Lib.hid hxo
  have HXB := Lib.hid hxb
  have hql := q_len q
  have hqu := Try.underlying33
  have hqi := hash_info q
  clear hD hA hfB hB hak har hxo hxb
  go_enter Try.func63, Try.ntmps63
  go_wp2_with fail
  go_region_held3 (fun W => (∀ (b o : Nat), b < w.heap.size → W.cell? ⟨b, o, none⟩ = w.cell? ⟨b, o, none⟩) ∧ W.rangeAt A 1 (q.1.map bv) ∧ (Instr.lookup 76 (.map (some B)) (.agg (q.1.map bv).toArray) true).run Try.prog W = .ok (.tuple #[xo, .bool xb]) W)
    (exact keepD HB.out HK.out (by rw [HXO.out, HXB.out]) (by (repeat (first | exact Below.refl _ _ | refine bg_al ?_ | refine bg_gr ?_ | refine bg_drn ?_ | refine bg_dr ?_ | assumption)))) (fail)
  go_wp2_with fail
  go_region_held3 (fun W => (∀ (b o : Nat), b < w.heap.size → W.cell? ⟨b, o, none⟩ = w.cell? ⟨b, o, none⟩))
    (exact cellB (by (repeat (first | exact Below.refl _ _ | refine bg_al ?_ | refine bg_gr ?_ | refine bg_drn ?_ | refine bg_dr ?_ | assumption)))) (fail)
  go_wp2_with fail
  go_ret
  exact ⟨rfl, 2, rfl⟩

end Go.Proofs.Ytcbglojjbgenlaa
