/- The deferred closure of rlp.read, and read. -/
import Derived.Test.YtdhkhdeblkbojaaRlpList
import Derived.Defers
import Derived.Recover
import Derived.Laws.Pointers
namespace Go.Proofs.Ytdhkhdeblkbojaa
open Go.RowKit
attribute [local go_sem ↓] Go.wp_at_zero Go.wp_at_succ

theorem rows6 {w W : World} {H : Nat} {x0 x1 x2 y z0 z1 : Value} (hx : W.heap[H]? = some (.cells #[x0, x1, x2] 46 (0, 0))) (hy : W.heap[H + 1]? = some (.cells #[y] 3 (0, 0))) (hz : W.heap[H + 2]? = some (.cells #[z0, z1] 92 (0, 0)))
    (hc : Chg (fun k => H ≤ k ∧ k < H + 3) w W) (a0 a1 a2 b0 c0 c1 : Value) {V : World} (hV : V = (((((W.setCell ⟨H, 0, none⟩ a0).setCell ⟨H, 1, none⟩ a1).setCell ⟨H, 2, none⟩ a2).setCell ⟨H + 1, 0, none⟩ b0).setCell ⟨H + 2, 0, none⟩ c0).setCell ⟨H + 2, 1, none⟩ c1) :
    Chg (fun k => H ≤ k ∧ k < H + 3) w V ∧ V.heap[H]? = some (.cells #[a0, a1, a2] 46 (0, 0)) ∧ V.heap[H + 1]? = some (.cells #[b0] 3 (0, 0)) ∧ V.heap[H + 2]? = some (.cells #[c0, c1] 92 (0, 0)) := by
  subst hV
  refine ⟨(((((hc.setCell ⟨Nat.le_refl _, by simp only; omega⟩ _).setCell ⟨Nat.le_refl _, by simp only; omega⟩ _).setCell ⟨Nat.le_refl _, by simp only; omega⟩ _).setCell ⟨by simp only; omega, by simp only; omega⟩ _).setCell ⟨by simp only; omega, by simp only; omega⟩ _).setCell ⟨by simp only; omega, by simp only; omega⟩ _, ?_, ?_, ?_⟩
  · have h1 := heap_setCell_same W H 0 _ _ a0 hx
    have h2 := heap_setCell_same _ H 1 _ _ a1 h1
    have h3 := heap_setCell_same _ H 2 _ _ a2 h2
    rw [Below.heap_setCell _ ⟨H + 2, 1, none⟩ _ _ (by simp), Below.heap_setCell _ ⟨H + 2, 0, none⟩ _ _ (by simp), Below.heap_setCell _ ⟨H + 1, 0, none⟩ _ _ (by simp)]
    exact h3
  · rw [Below.heap_setCell _ ⟨H + 2, 1, none⟩ _ _ (by simp), Below.heap_setCell _ ⟨H + 2, 0, none⟩ _ _ (by simp)]
    refine heap_setCell_same _ (H + 1) 0 #[y] _ b0 ?_
    rw [Below.heap_setCell _ ⟨H, 2, none⟩ _ _ (by simp), Below.heap_setCell _ ⟨H, 1, none⟩ _ _ (by simp), Below.heap_setCell _ ⟨H, 0, none⟩ _ _ (by simp)]
    exact hy
  · refine heap_setCell_same _ (H + 2) 1 #[c0, z1] _ c1 ?_
    refine heap_setCell_same _ (H + 2) 0 #[z0, z1] _ c0 ?_
    rw [Below.heap_setCell _ ⟨H + 1, 0, none⟩ _ _ (by simp), Below.heap_setCell _ ⟨H, 2, none⟩ _ _ (by simp), Below.heap_setCell _ ⟨H, 1, none⟩ _ _ (by simp), Below.heap_setCell _ ⟨H, 0, none⟩ _ _ (by simp)]
    exact hz

theorem rows6d {w U V : World} {H : Nat} {o1 o2 o3 : Obj} (h : Chg (fun k => H ≤ k ∧ k < H + 3) w U ∧ U.heap[H]? = some o1 ∧ U.heap[H + 1]? = some o2 ∧ U.heap[H + 2]? = some o3) (hV : V = U.drew) :
    Chg (fun k => H ≤ k ∧ k < H + 3) w V ∧ V.heap[H]? = some o1 ∧ V.heap[H + 1]? = some o2 ∧ V.heap[H + 2]? = some o3 := by
  subst hV
  exact ⟨⟨h.1.os, h.1.tape, h.1.output, h.1.size, h.1.block⟩, h.2.1, h.2.2.1, h.2.2.2⟩

set_option maxRecDepth 100000 in
set_option maxHeartbeats 1000000 in
theorem catch_panicking (H : Nat) (p ec : Int) (x0 x1 x2 y z0 z1 : Value) (older : List PanicEntry) (w : World)
    (hx : w.heap[H]? = some (.cells #[x0, x1, x2] 46 (0, 0))) (hy : w.heap[H + 1]? = some (.cells #[y] 3 (0, 0))) (hz : w.heap[H + 2]? = some (.cells #[z0, z1] 92 (0, 0))) :
    CallsD Try.prog 73 #[.pointer (some ⟨H, 0, none⟩), .pointer (some ⟨H + 1, 0, none⟩), .pointer (some ⟨H + 2, 0, none⟩)]
      (.panicking ({ v := .iface 92 (.agg #[.int .i64 p, .int .i64 ec]), recovered := false } :: older)) w fun e u' w' =>
      e = .returned (.tuple #[]) ∧ u' = .panicking ({ v := .iface 92 (.agg #[.int .i64 p, .int .i64 ec]), recovered := true } :: older) ∧
      Chg (fun k => H ≤ k ∧ k < H + 3) w w' ∧ w'.heap[H]? = some (.cells #[.bool false, .slice none 0 0, .slice none 0 0] 46 (0, 0)) ∧ w'.heap[H + 1]? = some (.cells #[.int .i64 0] 3 (0, 0)) ∧ w'.heap[H + 2]? = some (.cells #[.int .i64 p, .int .i64 ec] 92 (0, 0)) := by
  refine callsD_of_wpS Try.func73 rfl fun c₀ cs hu => ?_
  apply wpS_seq
  apply wpS_region
  simp [wpOpsS, go_sem, recoverD, hu, Try.ntmps73, Exit.thenS]
  have hta : ∀ w : World, (Instr.typeAssert (.iface 92 (.agg #[.int .i64 p, .int .i64 ec])) 20 92 true).run Try.prog w = .ok (.tuple #[.agg #[.int .i64 p, .int .i64 ec], .bool true]) w := fun _ => rfl
  have hlt : H + 2 < w.heap.size := (Array.getElem?_eq_some_iff.1 hz).1
  have hWx := (Below.heap_alloc w (.cells #[.int .i64 p, .int .i64 ec] 92) H (by omega)).trans hx
  have hWy := (Below.heap_alloc w (.cells #[.int .i64 p, .int .i64 ec] 92) (H + 1) (by omega)).trans hy
  have hWz := (Below.heap_alloc w (.cells #[.int .i64 p, .int .i64 ec] 92) (H + 2) (by omega)).trans hz
  have hWn := heap_alloc_new w (.cells #[.int .i64 p, .int .i64 ec] 92)
  have hWc : Chg (fun k => H ≤ k ∧ k < H + 3) w (w.alloc (.cells #[.int .i64 p, .int .i64 ec] 92)) := (Chg.refl _ w).alloc _
  have HWX := Lib.hid hWx
  have HWY := Lib.hid hWy
  have HWZ := Lib.hid hWz
  have HWN := Lib.hid hWn
  have HWC := Lib.hid hWc
  clear hx hy hz hWx hWy hWz hWn hWc
  refine wpS_of_wp ?_
  change Code.wp _ _ _ ⟨#[.pointer (some ⟨H, 0, none⟩), .pointer (some ⟨H + 1, 0, none⟩), .pointer (some ⟨H + 2, 0, none⟩), undef, undef, undef, .iface 92 (.agg #[.int .i64 p, .int .i64 ec]), undef, undef, undef, undef, undef, undef, undef], []⟩ w
  go_wp2
  clear hta
  generalize w.alloc (.cells #[.int .i64 p, .int .i64 ec] 92) = W at HWX HWY HWZ HWN HWC ⊢
  have x0c := cell_of_row W H 0 _ _ _ HWX.out
  have x1c := cell_of_row W H 1 _ _ _ HWX.out
  have x2c := cell_of_row W H 2 _ _ _ HWX.out
  have yc := cell_of_row W (H + 1) 0 _ _ _ HWY.out
  have z0c := cell_of_row W (H + 2) 0 _ _ _ HWZ.out
  have z1c := cell_of_row W (H + 2) 1 _ _ _ HWZ.out
  have n0c := cell_of_row W w.heap.size 0 _ _ _ HWN.out
  have n1c := cell_of_row W w.heap.size 1 _ _ _ HWN.out
  have x0f := frozen_of_row W H 0 _ _ HWX.out
  have x1f := frozen_of_row W H 1 _ _ HWX.out
  have x2f := frozen_of_row W H 2 _ _ HWX.out
  have yf := frozen_of_row W (H + 1) 0 _ _ HWY.out
  have z0f := frozen_of_row W (H + 2) 0 _ _ HWZ.out
  have z1f := frozen_of_row W (H + 2) 1 _ _ HWZ.out
  simp at x0c x1c x2c yc z0c z1c n0c n1c
  generalize w.heap.size = N at hlt HWN n0c n1c ⊢
  go_region
  go_wp2
  refine ⟨rfl, _, rfl, .tuple #[], by simp [results, Try.results73], rfl, rfl, ?_⟩
  exact rows6d (rows6 HWX.out HWY.out HWZ.out HWC.out (.bool false) (.slice none 0 0) (.slice none 0 0) (.int .i64 0) (.int .i64 p) (.int .i64 ec) rfl) rfl

theorem catch_idle (a0 a1 a2 : Value) (w : World) :
    CallsD Try.prog 73 #[a0, a1, a2] .returning w fun e u' w' => e = .returned (.tuple #[]) ∧ u' = .returning ∧ w' = w := by
  refine callsD_of_wpS Try.func73 rfl fun c₀ cs hu => ?_
  apply wpS_seq
  apply wpS_region
  simp [wpOpsS, go_sem, recoverD, hu, Try.ntmps73, Exit.thenS]
  refine wpS_of_wp ?_
  go_wp2
  exact ⟨rfl, .returning, by cases c₀; simp_all, .tuple #[], by simp [results, Try.results73], rfl, rfl, rfl⟩
end Go.Proofs.Ytdhkhdeblkbojaa
