/- The document's reader: number, read. -/
import Derived.Test.YtdhkhdeblkbojaaGrowRlp
set_option linter.unusedSimpArgs false
namespace Go.Proofs.Ytdhkhdeblkbojaa
open Go.RowKit
attribute [local go_sem ↓] Go.wp_at_zero Go.wp_at_succ
attribute [local go_sem] size_gr cell_gr frozen_gr setCell_gr gr_drew gr_drewN lt_k lt_kc le_k le_kc sub_kc

def satN (l : List UInt8) : Nat := min (beNat l) 1048577
theorem satN_snoc (l : List UInt8) (c : UInt8) : satN (l ++ [c]) = min (satN l * 256 + c.toNat) 1048577 := by
  unfold satN
  rw [beNat_snoc]
  omega

set_option maxRecDepth 100000 in
set_option maxHeartbeats 2000000 in
theorem number_any (v : Value) (l : List UInt8) (w : World) (h : SB w v l) (hl : l.length ≤ 1099511627776) : Calls Try.prog 75 #[v] w fun e w' => e = .returned (.int .i64 ((satN l : Nat) : Int)) ∧ Below w.heap.size w w' := by
  obtain ⟨A, c, rfl, hr, -⟩ := h
  have HR := Lib.hid hr
  clear hr
  go_enter Try.func75, Try.ntmps75
  go_wp2_with fail
  go_loop [3, 8] (fun n i => ∃ j : Nat, j ≤ l.length ∧ i = .int .i64 j ∧ n = .int .i64 ((satN (l.take j) : Nat) : Int)) (fun _ i => l.length - (intOf i).toNat)
  case atStart => exact ⟨0, by omega, rfl, rfl⟩
  case round =>
    obtain ⟨j, hj, rfl, rfl⟩ := hrel
    by_cases hjk : j < l.length
    · obtain ⟨b2, o2, rfl, hcj⟩ := HR.out j hjk
      have h8j := u8_lt l[j]
      have hs : satN (l.take j) ≤ 1048577 := by unfold satN; omega
      have HSN : Hid (satN (l.take (j + 1)) = min (satN (l.take j) * 256 + l[j].toNat) 1048577) := by
        show _ = _
        rw [take_snoc l j hjk, satN_snoc]
      have hij : (j : Int) < (l.length : Int) := by omega
      generalize satN (l.take j) = m at *
      generalize l[j] = y at *
      go_wp2
      exact ⟨⟨j + 1, by omega, by go_num, by rw [HSN.out]; go_num⟩, by simp [intOf]; omega⟩
    · obtain rfl : j = l.length := by omega
      rw [List.take_length]
      have hij : ¬ (l.length : Int) < (l.length : Int) := by omega
      go_wp2
      go_ret
      exact ⟨rfl, by (repeat (first | exact Below.refl _ _ | refine bg_al ?_ | refine bg_gr ?_ | refine bg_drn ?_ | refine bg_dr ?_ | assumption))⟩
end Go.Proofs.Ytdhkhdeblkbojaa
