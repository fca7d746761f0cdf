/- Numbers as items: the document's Int, Number; the program's. -/
import Derived.Test.YtdhkhdeblkbojaaRefEnc3
set_option linter.unusedSimpArgs false
namespace Go.Proofs.Ytdhkhdeblkbojaa
open Go.RowKit
attribute [local go_sem ↓] Go.wp_at_zero Go.wp_at_succ
attribute [local go_sem] size_gr cell_gr frozen_gr setCell_gr gr_drew gr_drewN lt_k lt_kc le_k le_kc sub_kc

def noInt : It → Bool
  | .mk l b xs => l || (0 < xs.length) || (8 < b.length) || (0 < b.length && (b.getD 0 0).toNat == 0) || (b.length == 8 && 128 ≤ (b.getD 0 0).toNat)
def intR (x : It) : Int × Int := if noInt x = true then (0, 52) else ((beNat x.b : Int), 0)

set_option maxRecDepth 100000 in
theorem be_ge (l : List UInt8) : ∀ a : Nat, a * 256 ^ l.length ≤ l.foldl (fun n c => n * 256 + c.toNat) a := by
  induction l with
  | nil => intro a; simp
  | cons c r ih =>
    intro a
    have h1 := ih (a * 256 + c.toNat)
    have h2 : (a * 256) * 256 ^ r.length ≤ (a * 256 + c.toNat) * 256 ^ r.length := Nat.mul_le_mul_right _ (by omega)
    rw [List.foldl_cons, List.length_cons, Nat.pow_succ, Nat.mul_comm (256 ^ r.length) 256, ← Nat.mul_assoc]
    omega
theorem be_cons (a : UInt8) (r : List UInt8) : beNat (a :: r) = r.foldl (fun n c => n * 256 + c.toNat) a.toNat := by simp [beNat]
set_option maxRecDepth 100000 in
theorem be_small {b : List UInt8} (h8 : b.length ≤ 8) (h : b.length = 8 → (b.getD 0 0).toNat < 128) : beNat b < 9223372036854775808 := by
  by_cases h7 : b.length = 8
  · match b, h7, h with
    | a :: r, h7, h =>
      have ha : a.toNat < 128 := h h7
      have hr : r.length = 7 := by simpa using h7
      rw [be_cons]
      have := be_lt r a.toNat
      rw [hr] at this
      omega
  · have := beNat_take b b.length (by omega)
    rw [List.take_length] at this
    omega
set_option maxRecDepth 100000 in
theorem be_large {b : List UInt8} (h8 : b.length = 8) (h : 128 ≤ (b.getD 0 0).toNat) : 9223372036854775808 ≤ beNat b := by
  match b, h8, h with
  | a :: r, h8, h =>
    have ha : 128 ≤ a.toNat := h
    have hr : r.length = 7 := by simpa using h8
    rw [be_cons]
    have := be_ge r a.toNat
    rw [hr] at this
    omega
set_option maxRecDepth 100000 in
theorem be_take_small {b : List UInt8} (h8 : b.length ≤ 8) (h : beNat b < 9223372036854775808) (i : Nat) (hi : i < b.length) : beNat (b.take i) * 256 + b[i].toNat < 9223372036854775808 := by
  by_cases h7 : i = 7
  · subst h7
    have e : b = b.take 7 ++ [b[7]] := by
      have : b = b.take 8 := by rw [List.take_of_length_le (by omega)]
      rw [← take_snoc b 7 hi]
      exact this
    have := beNat_snoc (b.take 7) b[7]
    rw [← e] at this
    omega
  · have h1 := beNat_lt (b.take i)
    have h2 : (b.take i).length ≤ 6 := by have := List.length_take_le i b; omega
    have h3 : 256 ^ (b.take i).length ≤ 256 ^ 6 := Nat.pow_le_pow_right (by decide) h2
    have h4 := b[i].toNat_lt
    omega

set_option maxRecDepth 100000 in
set_option maxHeartbeats 2000000 in
theorem rint_any {w : World} {T : Nat → Prop} {v0 v1 v2 : Value} {x : It} {sv : List Value} (h : RdI w T v0 v1 v2 x sv) :
    Calls Try.prog 35 #[.agg #[v0, v1, v2]] w fun e w' => e = .returned (.tuple #[.int .i64 (intR x).1, .int .i64 (intR x).2]) ∧ Below w.heap.size w w' := by
  cases h with
  | mk l v1 bs A c E h1 h1' h2 h3 h4 h4' h5 h6 =>
    have HSb := Lib.hid h1
    obtain ⟨A1, c1, rfl, hr1, -⟩ := h1
    have HR := Lib.hid hr1
    clear h5 h6 h4 h4' h1' hr1
    by_cases hno : noInt (.mk l bs (E.map (·.x))) = true
    · have hfin : Hid (intR (.mk l bs (E.map (·.x))) = (0, 52)) := if_pos hno
      cases l with
      | true =>
        clear hno
        rw [hfin.out]
        go_enter Try.func35, Try.ntmps35
        go_wp2_with fail
        go_ret2
        exact ⟨rfl, by (repeat (first | exact Below.refl _ _ | refine bg_al ?_ | refine bg_gr ?_ | refine bg_drn ?_ | refine bg_dr ?_ | assumption))⟩
      | false =>
        by_cases h0 : 0 < E.length
        · have h0' : (0 : Int) < (E.length : Int) := by omega
          clear hno
          rw [hfin.out]
          go_enter Try.func35, Try.ntmps35
          go_wp2_with fail
          go_ret2
          exact ⟨rfl, by (repeat (first | exact Below.refl _ _ | refine bg_al ?_ | refine bg_gr ?_ | refine bg_drn ?_ | refine bg_dr ?_ | assumption))⟩
        · obtain rfl : E = [] := List.eq_nil_of_length_eq_zero (by omega)
          cases bs with
          | nil => simp [noInt] at hno
          | cons a r =>
            obtain ⟨b1, o1, rfl, hc1, hbw⟩ := sb_cell0 HSb.out
            have hd : 8 < r.length + 1 ∨ (¬ 8 < r.length + 1 ∧ a.toNat = 0) ∨ (¬ 8 < r.length + 1 ∧ ¬ a.toNat = 0 ∧ r.length + 1 = 8 ∧ 128 ≤ a.toNat) := by
              simp [noInt] at hno
              omega
            clear hno h0
            rcases hd with h | ⟨h, h'⟩ | ⟨h, h0, h', h''⟩
            · have h1 : (8 : Int) < (r.length : Int) + 1 := by omega
              clear h
              rw [hfin.out]
              go_enter Try.func35, Try.ntmps35
              go_wp2_with fail
              go_ret2
              exact ⟨rfl, by (repeat (first | exact Below.refl _ _ | refine bg_al ?_ | refine bg_gr ?_ | refine bg_drn ?_ | refine bg_dr ?_ | assumption))⟩
            · have h1 : ¬ (8 : Int) < (r.length : Int) + 1 := by omega
              have h2 : ((a.toNat : Int) == 0) = true := by simp [h']
              clear h h'
              rw [hfin.out]
              go_enter Try.func35, Try.ntmps35
              go_wp2_with fail
              go_ret2
              exact ⟨rfl, by (repeat (first | exact Below.refl _ _ | refine bg_al ?_ | refine bg_gr ?_ | refine bg_drn ?_ | refine bg_dr ?_ | assumption))⟩
            · have h1 : ¬ (8 : Int) < (r.length : Int) + 1 := by omega
              have h2 : ((a.toNat : Int) == 0) = false := by simp; omega
              have h3 : (((r.length : Int) + 1) == 8) = true := by simp; omega
              have h4 : (128 : Int) ≤ (a.toNat : Int) := by omega
              clear h h0 h' h''
              rw [hfin.out]
              go_enter Try.func35, Try.ntmps35
              go_wp2_with fail
              go_ret2
              exact ⟨rfl, by (repeat (first | exact Below.refl _ _ | refine bg_al ?_ | refine bg_gr ?_ | refine bg_drn ?_ | refine bg_dr ?_ | assumption))⟩
    · have hfin : Hid (intR (.mk l bs (E.map (·.x))) = ((beNat bs : Int), 0)) := if_neg hno
      obtain rfl : l = false := by cases l <;> simp_all [noInt]
      obtain rfl : E = [] := by cases E <;> simp_all [noInt]
      cases bs with
      | nil =>
        clear hno
        rw [hfin.out]
        go_enter Try.func35, Try.ntmps35
        go_wp2_with fail
        refine wp_loop_rounds 1 ?_; rw [rounds_succ]
        go_wp2
        go_ret2
        exact ⟨rfl, by (repeat (first | exact Below.refl _ _ | refine bg_al ?_ | refine bg_gr ?_ | refine bg_drn ?_ | refine bg_dr ?_ | assumption))⟩
      | cons a r =>
        obtain ⟨b1, o1, rfl, hc1, hbw⟩ := sb_cell0 HSb.out
        have hd : r.length + 1 ≤ 8 ∧ ¬ a.toNat = 0 ∧ (r.length + 1 = 8 → a.toNat < 128) := by
          simp [noInt] at hno
          omega
        obtain ⟨k1, k2, k3⟩ := hd
        have g1 : ¬ (8 : Int) < (r.length : Int) + 1 := by omega
        have g2 : ((a.toNat : Int) == 0) = false := by simp; omega
        have hsm := be_small (b := a :: r) k1 k3
        by_cases h8 : r.length + 1 = 8
        · have g3 : (((r.length : Int) + 1) == 8) = true := by simp; omega
          have g4 : ¬ (128 : Int) ≤ (a.toNat : Int) := by omega
          clear hno h8
          rw [hfin.out]
          go_enter Try.func35, Try.ntmps35
          go_wp2_with fail
          go_loop [4, 50] (fun n i => ∃ j : Nat, j ≤ (a :: r).length ∧ i = .int .i64 j ∧ n = .int .i64 ((beNat ((a :: r).take j) : Nat) : Int)) (fun _ i => (a :: r).length - (intOf i).toNat)
          case atStart => exact ⟨0, by omega, rfl, rfl⟩
          case round =>
            obtain ⟨j, hj, rfl, rfl⟩ := hrel
            by_cases hjk : j < (a :: r).length
            · obtain ⟨b2, o2, e2, hcj⟩ := HR.out j hjk
              injection e2 with e2
              injection e2 with e3 e4
              subst e3 e4
              have h8j := u8_lt (a :: r)[j]
              have hm := be_take_small (b := a :: r) k1 hsm j hjk
              have HSN : Hid (beNat ((a :: r).take (j + 1)) = beNat ((a :: r).take j) * 256 + (a :: r)[j].toNat) := by
                show _ = _
                rw [take_snoc (a :: r) j hjk, beNat_snoc]
              have hij : (j : Int) < (r.length : Int) + 1 := by simp at hjk; omega
              have hij2 : (j : Int) < ((r.length + 1 : Nat) : Int) := by omega
              have hjn : j < r.length + 1 := hjk
              generalize beNat ((a :: r).take j) = m at *
              generalize (a :: r)[j] = y at *
              go_wp2
              exact ⟨⟨j + 1, by omega, by go_num, by rw [HSN.out]; go_num⟩, by simp [intOf]; omega⟩
            · have hjk' : j = r.length + 1 := by simp at hj hjk; omega
              subst hjk'
              have HT := Lib.hid (List.take_of_length_le (l := a :: r) (i := r.length + 1) (by simp))
              have hij : ¬ ((r.length + 1 : Nat) : Int) < (r.length : Int) + 1 := by omega
              rw [HT.out]
              go_wp2
              go_ret2
              exact ⟨rfl, by (repeat (first | exact Below.refl _ _ | refine bg_al ?_ | refine bg_gr ?_ | refine bg_drn ?_ | refine bg_dr ?_ | assumption))⟩
        · have g3 : (((r.length : Int) + 1) == 8) = false := by simp; omega
          clear hno
          rw [hfin.out]
          go_enter Try.func35, Try.ntmps35
          go_wp2_with fail
          go_loop [4, 50] (fun n i => ∃ j : Nat, j ≤ (a :: r).length ∧ i = .int .i64 j ∧ n = .int .i64 ((beNat ((a :: r).take j) : Nat) : Int)) (fun _ i => (a :: r).length - (intOf i).toNat)
          case atStart => exact ⟨0, by omega, rfl, rfl⟩
          case round =>
            obtain ⟨j, hj, rfl, rfl⟩ := hrel
            by_cases hjk : j < (a :: r).length
            · obtain ⟨b2, o2, e2, hcj⟩ := HR.out j hjk
              injection e2 with e2
              injection e2 with e3 e4
              subst e3 e4
              have h8j := u8_lt (a :: r)[j]
              have hm := be_take_small (b := a :: r) k1 hsm j hjk
              have HSN : Hid (beNat ((a :: r).take (j + 1)) = beNat ((a :: r).take j) * 256 + (a :: r)[j].toNat) := by
                show _ = _
                rw [take_snoc (a :: r) j hjk, beNat_snoc]
              have hij : (j : Int) < (r.length : Int) + 1 := by simp at hjk; omega
              have hij2 : (j : Int) < ((r.length + 1 : Nat) : Int) := by omega
              have hjn : j < r.length + 1 := hjk
              generalize beNat ((a :: r).take j) = m at *
              generalize (a :: r)[j] = y at *
              go_wp2
              exact ⟨⟨j + 1, by omega, by go_num, by rw [HSN.out]; go_num⟩, by simp [intOf]; omega⟩
            · have hjk' : j = r.length + 1 := by simp at hj hjk; omega
              subst hjk'
              have HT := Lib.hid (List.take_of_length_le (l := a :: r) (i := r.length + 1) (by simp))
              have hij : ¬ ((r.length + 1 : Nat) : Int) < (r.length : Int) + 1 := by omega
              rw [HT.out]
              go_wp2
              go_ret2
              exact ⟨rfl, by (repeat (first | exact Below.refl _ _ | refine bg_al ?_ | refine bg_gr ?_ | refine bg_drn ?_ | refine bg_dr ?_ | assumption))⟩

end Go.Proofs.Ytdhkhdeblkbojaa
