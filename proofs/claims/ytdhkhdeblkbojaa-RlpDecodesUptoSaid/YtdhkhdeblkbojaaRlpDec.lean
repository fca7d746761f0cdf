/- rlp.Decode, rlp.Split. -/
import Derived.Test.YtdhkhdeblkbojaaRlpRead2
namespace Go.Proofs.Ytdhkhdeblkbojaa
open Go.RowKit
attribute [local go_sem ↓] Go.wp_at_zero Go.wp_at_succ

theorem headN_bad {b : List UInt8} {p e q : Nat} {c : Int} (h : headN b p e = .bad q c) : c ≠ 0 ∧ q = p ∧ 50 ≤ c ∧ c ≤ 54 := by
  unfold headN at h
  repeat' split at h
  all_goals first | (cases h; done) | (cases h; exact ⟨by decide, rfl, by decide, by decide⟩)

theorem dec_bad (f : Nat) : (∀ b p e d q c, p ≤ e → 2 * (e - p) + 1 ≤ f → decI f b p e d = .bad q c → p ≤ q ∧ q ≤ e ∧ 50 ≤ c ∧ c ≤ 54) ∧ (∀ b p e d q c, p ≤ e → 2 * (e - p) + 2 ≤ f → decL f b p e d = .bad q c → p ≤ q ∧ q ≤ e ∧ 50 ≤ c ∧ c ≤ 54) := by
  induction f with
  | zero => exact ⟨fun b p e d q c _ h => by omega, fun b p e d q c _ h => by omega⟩
  | succ f ih =>
    refine ⟨fun b p e d q c hp hf h => ?_, fun b p e d q c hp hf h => ?_⟩
    · rw [decI] at h
      split at h
      · cases h; exact ⟨Nat.le_refl _, hp, by decide, by decide⟩
      · split at h
        · cases h
        · split at h
          · cases h; exact ⟨Nat.le_refl _, hp, by decide, by decide⟩
          · split at h
            · rename_i q1 r1 hh
              obtain ⟨h1, h2, h3, h4⟩ := headN_bad hh
              cases h
              exact ⟨by omega, by omega, h3, h4⟩
            · rename_i n t1 hh
              obtain ⟨h1, h2, h3⟩ := headN_to hh (by omega)
              split at h
              · cases h; exact ⟨Nat.le_refl _, hp, by decide, by decide⟩
              · split at h
                · split at h
                  · rename_i q2 r2 hl
                    have := ih.2 b t1 (t1 + n) (d + 1) q2 r2 (by omega) (by omega) hl
                    cases h
                    exact ⟨by omega, by omega, this.2.2⟩
                  · cases h
                · split at h
                  · cases h; exact ⟨Nat.le_refl _, hp, by decide, by decide⟩
                  · cases h
    · rw [decL] at h
      split at h
      · cases h
      · split at h
        · rename_i q1 r1 hi
          cases h
          exact ih.1 b p e d q c hp (by omega) hi
        · rename_i x t1 hi
          have h1 := (dec_to f).1 b p e d x t1 hp hi
          split at h
          · rename_i q2 r2 hl
            have := ih.2 b t1 e d q2 r2 (by omega) (by omega) hl
            cases h
            exact ⟨by omega, this.2⟩
          · cases h

theorem readR_bad {b : List UInt8} {p : Nat} {c : Int} (h : readR b = .bad p c) : p ≤ b.length ∧ 50 ≤ c ∧ c ≤ 54 := by
  unfold readR at h
  split at h
  · cases h; exact ⟨Nat.zero_le _, by decide, by decide⟩
  · have := (dec_bad _).1 b 0 b.length 0 p c (Nat.zero_le _) (by omega) h
    exact ⟨this.2.1, this.2.2⟩
theorem readR_ok {b : List UInt8} {x : It} {q : Nat} (h : readR b = .ok x q) : 0 < q ∧ q ≤ b.length ∧ b.length ≤ 1048576 := by
  unfold readR at h
  split at h
  · cases h
  · have := (dec_to _).1 b 0 b.length 0 x q (Nat.zero_le _) h
    omega

/-- what Decode tells -/
def decR (b : List UInt8) : DR It := match readR b with
  | .ok x q => if q < b.length then .bad q 51 else .ok x q
  | .bad p c => .bad p c

def DecPost (w : World) (r : DR It) (e : Ending) (w' : World) : Prop :=
  match r with
  | .ok x _ => ∃ v0 v1 v2 sv, e = .returned (.tuple #[.agg #[v0, v1, v2], .int .i64 0, .int .i64 0]) ∧ RdI w' (Made w w') v0 v1 v2 x sv ∧ OwnS w' w.heap.size sv ∧ Below w.heap.size w w'
  | .bad p c => e = .returned (.tuple #[.agg #[.bool false, .slice none 0 0, .slice none 0 0], .int .i64 (p : Int), .int .i64 c]) ∧ Below w.heap.size w w'

theorem al2 (w : World) (o1 o2 : Obj) : Below w.heap.size w ((w.alloc o1).alloc o2) ∧ ((w.alloc o1).alloc o2).heap[w.heap.size]? = some o1 ∧ ((w.alloc o1).alloc o2).heap[w.heap.size + 1]? = some o2 ∧ ((w.alloc o1).alloc o2).heap.size = w.heap.size + 2 :=
  ⟨((Below.refl _ _).alloc (Nat.le_refl _) _).alloc (by simp) _, heap_alloc2_old _ _ _, heap_alloc2_new _ _ _, by simp⟩

theorem dec_out {w wa w1 w2 W : World} {v0 v1 v2 : Value} {x : It} {sv : List Value} (hbel : Below w.heap.size w w2) (hit : RdI w2 (Made wa w1) v0 v1 v2 x sv) (hos : OwnS w2 wa.heap.size sv) (hsz : wa.heap.size = w.heap.size + 1) (hs : w2.heap.size = w1.heap.size + 2)
    (hW : Chg (· = w.heap.size) w2 W) : RdI W (Made w W) v0 v1 v2 x sv ∧ OwnS W w.heap.size sv ∧ Below w.heap.size w W := by
  have h2 := hW.size
  have h3 := hbel.size
  refine ⟨(hit.chg hW (fun k hk hT => by unfold Made at hT; omega)).mono (fun k hT => by unfold Made at hT ⊢; omega), (hos.chg hW (fun k hk => by omega)).mono (by omega), ?_⟩
  exact ⟨hW.os.trans hbel.os, hW.tape.trans hbel.tape, hW.output.trans hbel.output, by omega, fun k hk => (hW.block k (by omega) (by omega)).trans (hbel.block k hk)⟩

set_option maxRecDepth 100000 in
set_option maxHeartbeats 2000000 in
theorem decode_any (vb : Value) (b : List UInt8) (w : World) (hb : SB w vb b) (hl : b.length ≤ 1099511627776) :
    Calls Try.prog 27 #[vb] w (DecPost w (decR b)) := by
  have HB := Lib.hid hb
  obtain ⟨A, cb, rfl, -⟩ := hb
  go_enter Try.func27, Try.ntmps27
  have hal : Below w.heap.size w (w.alloc (.cells #[.bool false, .slice none 0 0, .slice none 0 0] 46)) := (Below.refl _ _).alloc (Nat.le_refl _) _
  have hn0 := heap_alloc_new w (.cells #[.bool false, .slice none 0 0, .slice none 0 0] 46)
  have hsz : (w.alloc (.cells #[.bool false, .slice none 0 0, .slice none 0 0] 46)).heap.size = w.heap.size + 1 := by simp
  have HC := read_any (.slice A b.length cb) b _ (HB.out.below hal) hl
  have HC := Lib.hid HC
  have HN := Lib.hid hn0
  have HAL := Lib.hid hal
  clear hal hn0
  go_wp2_with fail
  refine HC.out.mono ?_
  clear HC
  generalize w.alloc (.cells #[.bool false, .slice none 0 0, .slice none 0 0] 46) = wa at HN HAL hsz ⊢
  cases hR : readR b with
  | bad p c =>
    obtain ⟨hp, hc1, hc2⟩ := readR_bad hR
    have hfin : Hid (decR b = .bad p c) := by show _ = _; rw [decR, hR]
    rintro e w1 ⟨rfl, hbel⟩
    have hx := (hbel.block w.heap.size (by omega)).trans HN.out
    have HX := Lib.hid hx
    have HBL := Lib.hid hbel
    have hne : ¬ c = 0 := by omega
    have hsz1 := hbel.size
    clear hbel hx hR HC
    go_wp2_with fail
    obtain ⟨al, -, hf, hs2⟩ := al2 w1 (.cells #[.bool false, .slice none 0 0, .slice none 0 0] 46) (.cells #[.int .i64 (p : Int), .int .i64 c] 92)
    have hx2 := (al.block w.heap.size (by omega)).trans HX.out
    generalize (w1.alloc (.cells #[.bool false, .slice none 0 0, .slice none 0 0] 46)).alloc (.cells #[.int .i64 (p : Int), .int .i64 c] 92) = w2 at al hf hs2 hx2 ⊢
    have f0 := cell_of_row w2 (w1.heap.size + 1) 0 _ _ _ hf
    have f1 := cell_of_row w2 (w1.heap.size + 1) 1 _ _ _ hf
    have x0 := cell_of_row w2 w.heap.size 0 _ _ _ hx2
    have x1 := cell_of_row w2 w.heap.size 1 _ _ _ hx2
    have x2 := cell_of_row w2 w.heap.size 2 _ _ _ hx2
    have fx0 := frozen_of_row w2 w.heap.size 0 _ _ hx2
    have fx1 := frozen_of_row w2 w.heap.size 1 _ _ hx2
    have fx2 := frozen_of_row w2 w.heap.size 2 _ _ hx2
    simp at f0 f1 x0 x1 x2
    have hbel2 : Below w.heap.size w w2 := bel_trans (bel_trans HAL.out (HBL.out.mono (by omega))) (al.mono (by omega))
    have HB2 := Lib.hid hbel2
    have HX2 := Lib.hid hx2
    clear al hf hx2 hbel2
    generalize hg1 : w1.heap.size + 1 = g1 at f0 f1 ⊢
    have hg2 : w.heap.size < g1 := by omega
    have hg3 : ¬ w.heap.size = g1 := by omega
    have hg4 : ¬ g1 = w.heap.size := by omega
    clear hg1
    go_region
    go_wp2_with fail
    refine bodyPost_ret (v := .tuple #[.agg #[.bool false, .slice none 0 0, .slice none 0 0], .int .i64 (p : Int), .int .i64 c]) (by simp [results, Try.results27, go_sem, x0, x1, x2]) rfl ?_
    rw [hfin.out]
    exact ⟨rfl, (((HB2.out.setCell (Nat.le_refl _) _).setCell (Nat.le_refl _) _).setCell (Nat.le_refl _) _).drew⟩
  | ok x q =>
    obtain ⟨hq0, hq1, hq2⟩ := readR_ok hR
    have hfin : Hid (decR b = if q < b.length then .bad q 51 else .ok x q) := by show _ = _; rw [decR, hR]
    rintro e w1 ⟨v0, v1, v2, sv, rfl, hit, hos, hbel⟩
    obtain ⟨l', A1, n1, cc1, A2, n2, cc2, rfl, rfl, rfl⟩ := hit.form
    have hx := (hbel.block w.heap.size (by omega)).trans HN.out
    have HX := Lib.hid hx
    have HBL := Lib.hid hbel
    have HIT := Lib.hid hit
    have HOS := Lib.hid hos
    have hsz1 := hbel.size
    clear hbel hx hR HC hit hos
    obtain ⟨al, hi2, hf, hs2⟩ := al2 w1 (.cells #[.bool l', .slice A1 n1 cc1, .slice A2 n2 cc2] 46) (.cells #[.int .i64 0, .int .i64 0] 92)
    have hx2 := (al.block w.heap.size (by omega)).trans HX.out
    have x0 := cell_of_row _ w.heap.size 0 _ _ _ hx2
    have x1 := cell_of_row _ w.heap.size 1 _ _ _ hx2
    have x2 := cell_of_row _ w.heap.size 2 _ _ _ hx2
    have fx0 := frozen_of_row _ w.heap.size 0 _ _ hx2
    have fx1 := frozen_of_row _ w.heap.size 1 _ _ hx2
    have fx2 := frozen_of_row _ w.heap.size 2 _ _ hx2
    have hit2 := HIT.out.kept al
    have hos2 := HOS.out.below al
    have hbel2 : Below w.heap.size w ((w1.alloc (.cells #[.bool l', .slice A1 n1 cc1, .slice A2 n2 cc2] 46)).alloc (.cells #[.int .i64 0, .int .i64 0] 92)) := bel_trans (bel_trans HAL.out (HBL.out.mono (by omega))) (al.mono (by omega))
    have HB2 := Lib.hid hbel2
    have HIT2 := Lib.hid hit2
    have HOS2 := Lib.hid hos2
    have hs3 := Lib.hid hs2
    clear al hi2 hf hx2 hbel2 hit2 hos2 hs2
    simp only [List.getElem?_toArray, List.getElem?_cons_zero, List.getElem?_cons_succ] at x0 x1 x2
    by_cases hlt : q < b.length
    · have hlt' : (q : Int) < (b.length : Int) := by omega
      have hfin2 : Hid (decR b = .bad q 51) := by show _ = _; rw [hfin.out, if_pos hlt]
      go_wp2_with fail
      refine bodyPost_ret (v := .tuple #[.agg #[.bool false, .slice none 0 0, .slice none 0 0], .int .i64 (q : Int), .int .i64 51]) (by simp [results, Try.results27, go_sem, x0, x1, x2]) rfl ?_
      rw [hfin2.out]
      exact ⟨rfl, (((HB2.out.setCell (Nat.le_refl _) _).setCell (Nat.le_refl _) _).setCell (Nat.le_refl _) _)⟩
    · have hlt' : ¬ (q : Int) < (b.length : Int) := by omega
      have hfin2 : Hid (decR b = .ok x q) := by show _ = _; rw [hfin.out, if_neg hlt]
      go_wp2_with fail
      refine bodyPost_ret (v := .tuple #[.agg #[.bool l', .slice A1 n1 cc1, .slice A2 n2 cc2], .int .i64 0, .int .i64 0]) (by simp [results, Try.results27, go_sem, x0, x1, x2]) rfl ?_
      rw [hfin2.out]
      exact ⟨_, _, _, _, rfl, dec_out HB2.out HIT2.out HOS2.out hsz hs3.out (set3 _ _ _ _ _)⟩
end Go.Proofs.Ytdhkhdeblkbojaa
