/- rlp.read. -/
import Derived.Test.YtdhkhdeblkbojaaRlpRead
namespace Go.Proofs.Ytdhkhdeblkbojaa
open Go.RowKit
attribute [local go_sem ↓] Go.wp_at_zero Go.wp_at_succ

/-- the first item of bytes -/
def readR (b : List UInt8) : DR It := if 1048576 < b.length then .bad 0 54 else decI (2 * b.length + 1) b 0 b.length 0

def ReadPost (w : World) (r : DR It) (e : Ending) (w' : World) : Prop :=
  match r with
  | .ok x q => ∃ v0 v1 v2 sv, e = .returned (.tuple #[.agg #[v0, v1, v2], .int .i64 (q : Int), .agg #[.int .i64 0, .int .i64 0]]) ∧ RdI w' (Made w w') v0 v1 v2 x sv ∧ OwnS w' w.heap.size sv ∧ Below w.heap.size w w'
  | .bad p c => e = .returned (.tuple #[.agg #[.bool false, .slice none 0 0, .slice none 0 0], .int .i64 0, .agg #[.int .i64 (p : Int), .int .i64 c]]) ∧ Below w.heap.size w w'

theorem al3 (w : World) (o1 o2 o3 : Obj) : Below w.heap.size w (((w.alloc o1).alloc o2).alloc o3) ∧ (((w.alloc o1).alloc o2).alloc o3).heap[w.heap.size]? = some o1 ∧ (((w.alloc o1).alloc o2).alloc o3).heap[w.heap.size + 1]? = some o2 ∧ (((w.alloc o1).alloc o2).alloc o3).heap[w.heap.size + 2]? = some o3 ∧ (((w.alloc o1).alloc o2).alloc o3).heap.size = w.heap.size + 3 := by
  refine ⟨(((Below.refl _ _).alloc (Nat.le_refl _) _).alloc (by simp) _).alloc (by simp; omega) _, ?_, ?_, ?_, by simp⟩
  · rw [Below.heap_alloc _ _ _ (by simp; omega)]
    exact heap_alloc2_old _ _ _
  · rw [Below.heap_alloc _ _ _ (by simp)]
    exact heap_alloc2_new _ _ _
  · have := heap_alloc_new ((w.alloc o1).alloc o2) o3
    simpa using this
theorem al4 (w : World) (o1 o2 o3 o4 : Obj) : Below w.heap.size w ((((w.alloc o1).alloc o2).alloc o3).alloc o4) ∧ ((((w.alloc o1).alloc o2).alloc o3).alloc o4).heap[w.heap.size]? = some o1 ∧ ((((w.alloc o1).alloc o2).alloc o3).alloc o4).heap[w.heap.size + 1]? = some o2 ∧ ((((w.alloc o1).alloc o2).alloc o3).alloc o4).heap[w.heap.size + 2]? = some o3 ∧ ((((w.alloc o1).alloc o2).alloc o3).alloc o4).heap[w.heap.size + 3]? = some o4 ∧ ((((w.alloc o1).alloc o2).alloc o3).alloc o4).heap.size = w.heap.size + 4 := by
  obtain ⟨h1, h2, h3, h4, h5⟩ := al3 w o1 o2 o3
  refine ⟨h1.alloc (by omega) _, ?_, ?_, ?_, ?_, by simp⟩
  · rw [Below.heap_alloc _ _ _ (by omega)]; exact h2
  · rw [Below.heap_alloc _ _ _ (by omega)]; exact h3
  · rw [Below.heap_alloc _ _ _ (by omega)]; exact h4
  · have := heap_alloc_new (((w.alloc o1).alloc o2).alloc o3) o4
    rwa [h5] at this

theorem rows3 {w W : World} {H : Nat} {x0 x1 x2 : Value} {o2 o3 : Obj} (hx : W.heap[H]? = some (.cells #[x0, x1, x2] 46 (0, 0))) (hy : W.heap[H + 1]? = some o2) (hz : W.heap[H + 2]? = some o3)
    (hc : Chg (fun k => H ≤ k ∧ k < H + 3) w W) (a0 a1 a2 : Value) :
    Chg (fun k => H ≤ k ∧ k < H + 3) w (((W.setCell ⟨H, 0, none⟩ a0).setCell ⟨H, 1, none⟩ a1).setCell ⟨H, 2, none⟩ a2) ∧ (((W.setCell ⟨H, 0, none⟩ a0).setCell ⟨H, 1, none⟩ a1).setCell ⟨H, 2, none⟩ a2).heap[H]? = some (.cells #[a0, a1, a2] 46 (0, 0)) ∧ (((W.setCell ⟨H, 0, none⟩ a0).setCell ⟨H, 1, none⟩ a1).setCell ⟨H, 2, none⟩ a2).heap[H + 1]? = some o2 ∧ (((W.setCell ⟨H, 0, none⟩ a0).setCell ⟨H, 1, none⟩ a1).setCell ⟨H, 2, none⟩ a2).heap[H + 2]? = some o3 := by
  refine ⟨((hc.setCell ⟨Nat.le_refl _, by simp only; omega⟩ _).setCell ⟨Nat.le_refl _, by simp only; omega⟩ _).setCell ⟨Nat.le_refl _, by simp only; omega⟩ _, ?_, ?_, ?_⟩
  · have h1 := heap_setCell_same W H 0 _ _ a0 hx
    have h2 := heap_setCell_same _ H 1 _ _ a1 h1
    exact heap_setCell_same _ H 2 _ _ a2 h2
  · rw [Below.heap_setCell _ ⟨H, 2, none⟩ _ _ (by simp), Below.heap_setCell _ ⟨H, 1, none⟩ _ _ (by simp), Below.heap_setCell _ ⟨H, 0, none⟩ _ _ (by simp)]
    exact hy
  · rw [Below.heap_setCell _ ⟨H, 2, none⟩ _ _ (by simp), Below.heap_setCell _ ⟨H, 1, none⟩ _ _ (by simp), Below.heap_setCell _ ⟨H, 0, none⟩ _ _ (by simp)]
    exact hz

theorem read_out {w w4 w5 W : World} {v0 v1 v2 : Value} {x : It} {sv : List Value} (hal : Below w.heap.size w w4) (hsz : w4.heap.size = w.heap.size + 4) (hch : Chg (· = w.heap.size + 3) w4 w5) (hit : RdI w5 (Made w4 w5) v0 v1 v2 x sv) (hos : OwnS w5 w4.heap.size sv)
    (hW : Chg (fun k => w.heap.size ≤ k ∧ k < w.heap.size + 3) w5 W) : RdI W (Made w W) v0 v1 v2 x sv ∧ OwnS W w.heap.size sv ∧ Below w.heap.size w W := by
  have h1 := hch.size
  have h2 := hW.size
  refine ⟨(hit.chg hW (fun k hk hT => by unfold Made at hT; omega)).mono (fun k hT => by unfold Made at hT ⊢; omega), (hos.chg hW (fun k hk => by omega)).mono (by omega), ?_⟩
  exact ⟨hW.os.trans (hch.os.trans hal.os), hW.tape.trans (hch.tape.trans hal.tape), hW.output.trans (hch.output.trans hal.output), by omega, fun k hk => (hW.block k (by omega) (by omega)).trans ((hch.block k (by omega) (by omega)).trans (hal.block k hk))⟩

set_option maxRecDepth 100000 in
set_option maxHeartbeats 2000000 in
theorem read_any (vb : Value) (b : List UInt8) (w : World) (hb : SB w vb b) (hl : b.length ≤ 1099511627776) :
    Calls Try.prog 57 #[vb] w (ReadPost w (readR b)) := by
  obtain ⟨A, cb, rfl, hr, hc, hm, hn⟩ := hb
  have hmf : ∀ (fn : Fn) (first cap : Array Value) (w : World), (Instr.makeFunc fn first cap).run Try.prog w = .ok (.func fn first cap) w := fun _ _ _ _ => rfl
  have HR := Lib.hid hr
  unfold maxLen at hm
  by_cases hbig : 1048576 < b.length
  · have hfin : Hid (readR b = .bad 0 54) := if_pos hbig
    have hbig' : (1048576 : Int) < (b.length : Int) := by omega
    clear hr hn
    go_enter_defers Try.func57, Try.ntmps57
    go_wp2
    simp [bodyPostD, Leaves, results, Try.results57, go_sem, hfin.out]
    exact ⟨rfl, (al3 w _ _ _).1⟩
  · have hfin : Hid (readR b = decI (2 * b.length + 1) b 0 b.length 0) := if_neg hbig
    have hbig' : ¬ (1048576 : Int) < (b.length : Int) := by omega
    clear hr hn
    go_enter_defers Try.func57, Try.ntmps57
    go_wp2_with fail
    obtain ⟨hal, hx, hy, hz, hblk, hsz4⟩ := al4 w (.cells #[.bool false, .slice none 0 0, .slice none 0 0] 46) (.cells #[.int .i64 0] 3) (.cells #[.int .i64 0, .int .i64 0] 92) (.cells #[.slice A b.length cb, .int .i64 0] 114)
    generalize (((w.alloc (.cells #[.bool false, .slice none 0 0, .slice none 0 0] 46)).alloc (.cells #[.int .i64 0] 3)).alloc (.cells #[.int .i64 0, .int .i64 0] 92)).alloc (.cells #[.slice A b.length cb, .int .i64 0] 114) = w4 at hblk hal hx hy hz hsz4 ⊢
    have hrd : Rdr w4 (w.heap.size + 1 + 1 + 1) A b cb 0 := ⟨hblk, HR.out.below hal, hc, by simp only [maxLen]; omega⟩
    have HC := (items_say (w.heap.size + 1 + 1 + 1) A b cb hl (2 * b.length + 1)).2 w4 0 b.length 0 hrd (Nat.zero_le _) (Nat.le_refl _) (by omega) (by omega)
    cases hI : decI (2 * b.length + 1) b 0 b.length 0 with
    | bad p c =>
      rw [hI] at HC hfin
      refine HC.mono ?_
      rintro en w5 ⟨rfl, hch⟩
      clear HC hI
      have hx5 := (hch.block w.heap.size (by omega) (by omega)).trans hx
      have hy5 := (hch.block (w.heap.size + 1) (by omega) (by omega)).trans hy
      have hz5 := (hch.block (w.heap.size + 2) (by omega) (by omega)).trans hz
      have HX := Lib.hid hx5
      have HY := Lib.hid hy5
      have HZ := Lib.hid hz5
      have HCH := Lib.hid hch
      have HAL := Lib.hid hal
      clear hx hy hz hx5 hy5 hz5 hch hblk hrd hal
      go_wp2_with fail
      refine leaves_cons (f := 73) (args := #[.pointer (some ⟨w.heap.size, 0, none⟩), .pointer (some ⟨w.heap.size + 1, 0, none⟩), .pointer (some ⟨w.heap.size + 2, 0, none⟩)]) (by simp) (by simp [go_sem]) ?_
      refine (catch_panicking w.heap.size p c _ _ _ _ _ _ [] w5 HX.out HY.out HZ.out).mono ?_
      rintro e u' W ⟨rfl, rfl, u1, u2, u3, u4⟩
      have k0 := cell_of_row W w.heap.size 0 _ _ _ u2
      have k1 := cell_of_row W w.heap.size 1 _ _ _ u2
      have k2 := cell_of_row W w.heap.size 2 _ _ _ u2
      have k3 := cell_of_row W (w.heap.size + 1) 0 _ _ _ u3
      have k4 := cell_of_row W (w.heap.size + 2) 0 _ _ _ u4
      have k5 := cell_of_row W (w.heap.size + 2) 1 _ _ _ u4
      have h1 := HCH.out.size
      have h2 := u1.size
      have hpost : Below w.heap.size w W := ⟨u1.os.trans (HCH.out.os.trans HAL.out.os), u1.tape.trans (HCH.out.tape.trans HAL.out.tape), u1.output.trans (HCH.out.output.trans HAL.out.output), by omega, fun k hk => (u1.block k (by omega) (by omega)).trans ((HCH.out.block k (by omega) (by omega)).trans (HAL.out.block k hk))⟩
      simp [Leaves, settle, results, Try.results57, go_sem, k0, k1, k2, k3, k4, k5, hfin.out]
      exact ⟨rfl, hpost⟩
    | ok x q =>
      rw [hI] at HC hfin
      refine HC.mono ?_
      rintro en w5 ⟨v0, v1, v2, sv, rfl, hit, hos, hr5, hch⟩
      obtain ⟨l', A1, n1, cc1, A2, n2, cc2, rfl, rfl, rfl⟩ := hit.form
      clear HC hI
      have hx5 := (hch.block w.heap.size (by omega) (by omega)).trans hx
      have hy5 := (hch.block (w.heap.size + 1) (by omega) (by omega)).trans hy
      have hz5 := (hch.block (w.heap.size + 2) (by omega) (by omega)).trans hz
      have HX := Lib.hid hx5
      have HY := Lib.hid hy5
      have HZ := Lib.hid hz5
      have x0 := cell_of_row w5 w.heap.size 0 _ _ _ hx5
      have x1 := cell_of_row w5 w.heap.size 1 _ _ _ hx5
      have x2 := cell_of_row w5 w.heap.size 2 _ _ _ hx5
      have y0 := cell_of_row w5 (w.heap.size + 1) 0 _ _ _ hy5
      have z0 := cell_of_row w5 (w.heap.size + 2) 0 _ _ _ hz5
      have z1 := cell_of_row w5 (w.heap.size + 2) 1 _ _ _ hz5
      have fx0 := frozen_of_row w5 w.heap.size 0 _ _ hx5
      have fx1 := frozen_of_row w5 w.heap.size 1 _ _ hx5
      have fx2 := frozen_of_row w5 w.heap.size 2 _ _ hx5
      have fy0 := frozen_of_row w5 (w.heap.size + 1) 0 _ _ hy5
      have fz0 := frozen_of_row w5 (w.heap.size + 2) 0 _ _ hz5
      have fz1 := frozen_of_row w5 (w.heap.size + 2) 1 _ _ hz5
      have r1 := hr5.c1
      simp at x0 x1 x2 y0 z0 z1
      have HR5 := Lib.hid hr5
      have HCH := Lib.hid hch
      have HIT := Lib.hid hit
      have HOS := Lib.hid hos
      have HAL := Lib.hid hal
      clear hx hy hz hx5 hy5 hz5 hr5 hch hit hos hblk hrd hal
      go_wp2_with fail
      go_region
      go_wp2_with fail
      obtain ⟨t1, t2, t3, t4⟩ := rows3 HX.out HY.out HZ.out (Chg.refl _ w5) (.bool l') (.slice A1 n1 cc1) (.slice A2 n2 cc2)
      generalize hWW : World.drew _ = W
      have hrows := rows6d (rows6 t2 t3 t4 t1 (.bool l') (.slice A1 n1 cc1) (.slice A2 n2 cc2) (.int .i64 q) (.int .i64 0) (.int .i64 0) rfl) hWW.symm
      obtain ⟨u1, u2, u3, u4⟩ := hrows
      have k0 := cell_of_row W w.heap.size 0 _ _ _ u2
      have k1 := cell_of_row W w.heap.size 1 _ _ _ u2
      have k2 := cell_of_row W w.heap.size 2 _ _ _ u2
      have k3 := cell_of_row W (w.heap.size + 1) 0 _ _ _ u3
      have k4 := cell_of_row W (w.heap.size + 2) 0 _ _ _ u4
      have k5 := cell_of_row W (w.heap.size + 2) 1 _ _ _ u4
      have hpost := read_out HAL.out hsz4 HCH.out HIT.out HOS.out u1
      clear hWW
      refine leaves_cons (f := 73) (args := #[.pointer (some ⟨w.heap.size, 0, none⟩), .pointer (some ⟨w.heap.size + 1, 0, none⟩), .pointer (some ⟨w.heap.size + 2, 0, none⟩)]) (by simp) (by simp [go_sem]) ?_
      refine (catch_idle _ _ _ _).mono ?_
      rintro e u' w'' ⟨rfl, rfl, rfl⟩
      simp [Leaves, settle, results, Try.results57, go_sem, k0, k1, k2, k3, k4, k5, hfin.out]
      exact ⟨_, _, _, _, rfl, hpost⟩
end Go.Proofs.Ytdhkhdeblkbojaa
