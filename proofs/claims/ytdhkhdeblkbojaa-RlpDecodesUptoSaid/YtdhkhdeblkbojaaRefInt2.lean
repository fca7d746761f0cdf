/- Numbers as items: the program's Int, both Numbers. -/
import Derived.Test.YtdhkhdeblkbojaaRefInt
set_option linter.unusedSimpArgs false
namespace Go.Proofs.Ytdhkhdeblkbojaa
open Go.RowKit
attribute [local go_sem ↓] Go.wp_at_zero Go.wp_at_succ
attribute [local go_sem] size_gr cell_gr frozen_gr setCell_gr gr_drew gr_drewN lt_k lt_kc le_k le_kc sub_kc

set_option maxRecDepth 100000 in
set_option maxHeartbeats 2000000 in
theorem iint_any {w : World} {T : Nat → Prop} {v0 v1 v2 : Value} {x : It} {sv : List Value} (h : RdI w T v0 v1 v2 x sv) :
    Calls Try.prog 37 #[.agg #[v0, v1, v2]] w fun e w' => e = .returned (.tuple #[.int .i64 (intR x).1, .int .i64 (intR x).2]) ∧ Below w.heap.size w w' := by
  cases h with
  | mk l v1 bs A c E h1 h1' h2 h3 h4 h4' h5 h6 =>
    have HSb := Lib.hid h1
    obtain ⟨A1, c1, rfl, hr1, -⟩ := h1
    have HR := Lib.hid hr1
    clear h5 h6 h4 h4' h1' hr1
    by_cases hno : noInt (.mk l bs (E.map (·.x))) = true
    · have hfin : Hid (intR (.mk l bs (E.map (·.x))) = (0, 52)) := if_pos hno
      cases l with
      | true =>
        clear hno
        rw [hfin.out]
        go_enter Try.func37, Try.ntmps37
        go_wp2_with fail
        go_ret2
        exact ⟨rfl, by (repeat (first | exact Below.refl _ _ | refine bg_al ?_ | refine bg_gr ?_ | refine bg_drn ?_ | refine bg_dr ?_ | assumption))⟩
      | false =>
        by_cases h0 : 0 < E.length
        · have h0' : (0 : Int) < (E.length : Int) := by omega
          clear hno
          rw [hfin.out]
          go_enter Try.func37, Try.ntmps37
          go_wp2_with fail
          go_ret2
          exact ⟨rfl, by (repeat (first | exact Below.refl _ _ | refine bg_al ?_ | refine bg_gr ?_ | refine bg_drn ?_ | refine bg_dr ?_ | assumption))⟩
        · obtain rfl : E = [] := List.eq_nil_of_length_eq_zero (by omega)
          cases bs with
          | nil => simp [noInt] at hno
          | cons a r =>
            obtain ⟨b1, o1, rfl, hc1, hbw⟩ := sb_cell0 HSb.out
            have hd : 8 < r.length + 1 ∨ (¬ 8 < r.length + 1 ∧ a.toNat = 0) ∨ (¬ 8 < r.length + 1 ∧ ¬ a.toNat = 0 ∧ r.length + 1 = 8 ∧ 128 ≤ a.toNat) := by
              simp [noInt] at hno
              omega
            clear hno h0
            rcases hd with h | ⟨h, h'⟩ | ⟨h, h0, h', h''⟩
            · have h1 : (8 : Int) < (r.length : Int) + 1 := by omega
              clear h
              rw [hfin.out]
              go_enter Try.func37, Try.ntmps37
              go_wp2_with fail
              go_ret2
              exact ⟨rfl, by (repeat (first | exact Below.refl _ _ | refine bg_al ?_ | refine bg_gr ?_ | refine bg_drn ?_ | refine bg_dr ?_ | assumption))⟩
            · have h1 : ¬ (8 : Int) < (r.length : Int) + 1 := by omega
              have h2 : ((a.toNat : Int) == 0) = true := by simp [h']
              clear h h'
              rw [hfin.out]
              go_enter Try.func37, Try.ntmps37
              go_wp2_with fail
              go_ret2
              exact ⟨rfl, by (repeat (first | exact Below.refl _ _ | refine bg_al ?_ | refine bg_gr ?_ | refine bg_drn ?_ | refine bg_dr ?_ | assumption))⟩
            · have g1 : ¬ (8 : Int) < (r.length : Int) + 1 := by omega
              have g2 : ((a.toNat : Int) == 0) = false := by simp; omega
              have hlg := be_large (b := a :: r) h' h''
              have k1 : (a :: r).length ≤ 8 := by simp; omega
              clear h h0 h' h''
              rw [hfin.out]
              go_enter Try.func37, Try.ntmps37
              go_wp2_with fail
              go_loop [4, 37] (fun n i => ∃ j : Nat, j ≤ (a :: r).length ∧ i = .int .i64 j ∧ n = .int .u64 ((beNat ((a :: r).take j) : Nat) : Int)) (fun _ i => (a :: r).length - (intOf i).toNat)
              case atStart => exact ⟨0, by omega, rfl, rfl⟩
              case round =>
                obtain ⟨j, hj, rfl, rfl⟩ := hrel
                by_cases hjk : j < (a :: r).length
                · obtain ⟨b2, o2, e2, hcj⟩ := HR.out j hjk
                  injection e2 with e2
                  injection e2 with e3 e4
                  subst e3 e4
                  have h8j := u8_lt (a :: r)[j]
                  have hm := beNat_take (a :: r) j (by omega)
                  have HSN : Hid (beNat ((a :: r).take (j + 1)) = beNat ((a :: r).take j) * 256 + (a :: r)[j].toNat) := by
                    show _ = _
                    rw [take_snoc (a :: r) j hjk, beNat_snoc]
                  have hor := u64_join (beNat ((a :: r).take j)) (a :: r)[j].toNat hm (a :: r)[j].toNat_lt
                  have hij : (j : Int) < (r.length : Int) + 1 := by simp at hjk; omega
                  have hij2 : (j : Int) < ((r.length + 1 : Nat) : Int) := by omega
                  have hjn : j < r.length + 1 := hjk
                  generalize beNat ((a :: r).take j) = m at *
                  generalize (a :: r)[j] = y at *
                  go_wp2
                  exact ⟨⟨j + 1, by omega, by go_num, by rw [HSN.out]; rfl⟩, by simp [intOf]; omega⟩
                · have hjk' : j = r.length + 1 := by simp at hj hjk; omega
                  subst hjk'
                  have HT := Lib.hid (List.take_of_length_le (l := a :: r) (i := r.length + 1) (by simp))
                  have hij : ¬ ((r.length + 1 : Nat) : Int) < (r.length : Int) + 1 := by omega
                  rw [HT.out]
                  have hcmp : (9223372036854775807 : Int) < ((beNat (a :: r) : Nat) : Int) := by omega
                  go_wp2
                  go_ret2
                  exact ⟨rfl, by (repeat (first | exact Below.refl _ _ | refine bg_al ?_ | refine bg_gr ?_ | refine bg_drn ?_ | refine bg_dr ?_ | assumption))⟩
    · have hfin : Hid (intR (.mk l bs (E.map (·.x))) = ((beNat bs : Int), 0)) := if_neg hno
      obtain rfl : l = false := by cases l <;> simp_all [noInt]
      obtain rfl : E = [] := by cases E <;> simp_all [noInt]
      cases bs with
      | nil =>
        clear hno
        rw [hfin.out]
        go_enter Try.func37, Try.ntmps37
        go_wp2_with fail
        refine wp_loop_rounds 1 ?_; rw [rounds_succ]
        go_wp2
        go_ret2
        exact ⟨rfl, by (repeat (first | exact Below.refl _ _ | refine bg_al ?_ | refine bg_gr ?_ | refine bg_drn ?_ | refine bg_dr ?_ | assumption))⟩
      | cons a r =>
        obtain ⟨b1, o1, rfl, hc1, hbw⟩ := sb_cell0 HSb.out
        have hd : r.length + 1 ≤ 8 ∧ ¬ a.toNat = 0 ∧ (r.length + 1 = 8 → a.toNat < 128) := by
          simp [noInt] at hno
          omega
        obtain ⟨k1, k2, k3⟩ := hd
        have g1 : ¬ (8 : Int) < (r.length : Int) + 1 := by omega
        have g2 : ((a.toNat : Int) == 0) = false := by simp; omega
        have hsm := be_small (b := a :: r) k1 k3
        have k1' : (a :: r).length ≤ 8 := k1
        clear hno k2 k3
        rw [hfin.out]
        go_enter Try.func37, Try.ntmps37
        go_wp2_with fail
        go_loop [4, 37] (fun n i => ∃ j : Nat, j ≤ (a :: r).length ∧ i = .int .i64 j ∧ n = .int .u64 ((beNat ((a :: r).take j) : Nat) : Int)) (fun _ i => (a :: r).length - (intOf i).toNat)
        case atStart => exact ⟨0, by omega, rfl, rfl⟩
        case round =>
          obtain ⟨j, hj, rfl, rfl⟩ := hrel
          by_cases hjk : j < (a :: r).length
          · obtain ⟨b2, o2, e2, hcj⟩ := HR.out j hjk
            injection e2 with e2
            injection e2 with e3 e4
            subst e3 e4
            have h8j := u8_lt (a :: r)[j]
            have hm := beNat_take (a :: r) j (by omega)
            have HSN : Hid (beNat ((a :: r).take (j + 1)) = beNat ((a :: r).take j) * 256 + (a :: r)[j].toNat) := by
              show _ = _
              rw [take_snoc (a :: r) j hjk, beNat_snoc]
            have hor := u64_join (beNat ((a :: r).take j)) (a :: r)[j].toNat hm (a :: r)[j].toNat_lt
            have hij : (j : Int) < (r.length : Int) + 1 := by simp at hjk; omega
            have hij2 : (j : Int) < ((r.length + 1 : Nat) : Int) := by omega
            have hjn : j < r.length + 1 := hjk
            generalize beNat ((a :: r).take j) = m at *
            generalize (a :: r)[j] = y at *
            go_wp2
            exact ⟨⟨j + 1, by omega, by go_num, by rw [HSN.out]; rfl⟩, by simp [intOf]; omega⟩
          · have hjk' : j = r.length + 1 := by simp at hj hjk; omega
            subst hjk'
            have HT := Lib.hid (List.take_of_length_le (l := a :: r) (i := r.length + 1) (by simp))
            have hij : ¬ ((r.length + 1 : Nat) : Int) < (r.length : Int) + 1 := by omega
            rw [HT.out]
            have hcmp : ¬ (9223372036854775807 : Int) < ((beNat (a :: r) : Nat) : Int) := by omega
            go_wp2
            go_ret2
            exact ⟨rfl, by (repeat (first | exact Below.refl _ _ | refine bg_al ?_ | refine bg_gr ?_ | refine bg_drn ?_ | refine bg_dr ?_ | assumption))⟩
end Go.Proofs.Ytdhkhdeblkbojaa
