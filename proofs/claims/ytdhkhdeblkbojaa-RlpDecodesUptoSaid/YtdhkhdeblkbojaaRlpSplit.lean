/- rlp.Split. -/
import Derived.Test.YtdhkhdeblkbojaaRlpDec
namespace Go.Proofs.Ytdhkhdeblkbojaa
open Go.RowKit
attribute [local go_sem ↓] Go.wp_at_zero Go.wp_at_succ

def SplitPost (w : World) (b : List UInt8) (r : DR It) (e : Ending) (w' : World) : Prop :=
  match r with
  | .ok _ q => ∃ s t, e = .returned (.tuple #[s, t, .int .i64 0]) ∧ OwnB w' w.heap.size s (b.take q) ∧ OwnB w' w.heap.size t (b.drop q) ∧ OwnS w' w.heap.size [s, t] ∧ Below w.heap.size w w'
  | .bad _ c => e = .returned (.tuple #[.slice none 0 0, .slice none 0 0, .int .i64 c]) ∧ Below w.heap.size w w'

set_option maxRecDepth 100000 in
set_option maxHeartbeats 2000000 in
theorem split_any (vb : Value) (b : List UInt8) (w : World) (hb : SB w vb b) (hl : b.length ≤ 1099511627776) :
    Calls Try.prog 32 #[vb] w (SplitPost w b (readR b)) := by
  have HB := Lib.hid hb
  have HC := Lib.hid (read_any vb b w hb hl)
  obtain ⟨A, cb, rfl, hrd, hcb, hmx, hnn⟩ := hb
  have hm : cb ≤ 9223372036854775807 := by unfold maxLen at hmx; omega
  cases hR : readR b with
  | bad p c =>
    obtain ⟨hp, hc1, hc2⟩ := readR_bad hR
    rw [hR] at HC
    have hne : ¬ c = 0 := by omega
    have hne' : (c != 0) = true := by simp [hne]
    clear hrd hnn hR hmx
    go_enter Try.func32, Try.ntmps32
    go_wp2_with fail
    refine HC.out.mono ?_
    rintro e w1 ⟨rfl, hbel⟩
    have HBL := Lib.hid hbel
    clear hbel HC
    go_wp2_with fail
    go_quiet (fail)
    go_wp2_with fail
    refine bodyPost_ret (v := .tuple #[.slice none 0 0, .slice none 0 0, .int .i64 c]) (by simp [results, Try.results32, go_sem]) rfl ?_
    exact ⟨rfl, bel_trans HBL.out (bel_drewN (al2 w1 _ _).1 _)⟩
  | ok x q =>
    obtain ⟨hq0, hq1, hq2⟩ := readR_ok hR
    rw [hR] at HC
    obtain ⟨bl, off, rfl⟩ : ∃ bl off, A = some ⟨bl, off, none⟩ := by
      obtain ⟨bl, off, e, _⟩ := hrd 0 (by omega)
      exact ⟨bl, off, by simpa using e⟩
    have ht : (b.take q).length = q := by simp; omega
    have hd : (b.drop q).length = b.length - q := by simp
    have hs1 : ∀ W, SB W (.slice (some ⟨bl, off, none⟩) b.length cb) b → SB W (.slice (some ⟨bl, off, none⟩) q cb) (b.take q) := fun W h => by
      obtain ⟨A', c', e, hr, _, _, _⟩ := h
      injection e with e1 e2 e3
      subst e1 e3
      exact ⟨_, _, by rw [ht], hr.take q, by omega, hmx, fun e => by cases e⟩
    have hs2 : ∀ W, SB W (.slice (some ⟨bl, off, none⟩) b.length cb) b → SB W (.slice (cutA (some ⟨bl, off, none⟩) cb q) (b.length - q) (cb - q)) (b.drop q) := fun W h => by
      obtain ⟨A', c', e, hr, _, _, _⟩ := h
      injection e with e1 e2 e3
      subst e1 e3
      refine ⟨_, _, by rw [hd], hr.cut hcb, by omega, by unfold maxLen; omega, fun e => ?_⟩
      unfold cutA at e
      split at e <;> cases e
    have HS1 := Lib.hid hs1
    have HS2 := Lib.hid hs2
    have HT := Lib.hid ht
    have HD := Lib.hid hd
    have hsl2 : ∀ W, (Instr.slice 22 (.slice (some ⟨bl, off, none⟩) b.length cb) (some (.int .i64 (q : Int))) none none).run Try.prog W = .ok (.slice (cutA (some ⟨bl, off, none⟩) cb q) (b.length - q) (cb - q)) W := run_slice_from bytesT _ _ _ q hq1
    have hqc : (q : Int) ≤ (cb : Int) := by omega
    clear hrd hnn hR hmx hs1 hs2 ht hd
    go_enter Try.func32, Try.ntmps32
    go_wp2_with fail
    refine HC.out.mono ?_
    rintro e w1 ⟨v0, v1, v2, sv, rfl, hit, hos, hbel⟩
    obtain ⟨l', A1, n1, cc1, A2, n2, cc2, rfl, rfl, rfl⟩ := hit.form
    have HBL := Lib.hid hbel
    clear hbel HC hit hos
    go_wp2_with fail
    obtain ⟨al, -, -, hs3⟩ := al2 w1 (.cells #[.bool l', .slice A1 n1 cc1, .slice A2 n2 cc2] 46) (.cells #[.int .i64 0, .int .i64 0] 92)
    have hbel2 := bel_trans HBL.out al
    generalize (w1.alloc (.cells #[.bool l', .slice A1 n1 cc1, .slice A2 n2 cc2] 46)).alloc (.cells #[.int .i64 0, .int .i64 0] 92) = w2 at al hs3 hbel2 ⊢
    have HB2 := Lib.hid hbel2
    have hle := hbel2.size
    clear al hbel2
    have hgt : w2.cell? ⟨w2.heap.size, 0, none⟩ = w2.cell? ⟨w2.heap.size, 0, none⟩ := rfl
    clear hgt
    go_region_held3 (fun _ => True) (trivial) (first
      | (go_at_call 59; refine (clone_any _ (b.take q) _ (HS1.out _ ((HB.out.below HB2.out).drewN 1)) (by rw [HT.out]; omega)).mono ?_; rintro e3 w3 ⟨v3, rfl, ho3, hb3⟩)
      | (go_at_call 59; refine (clone_any _ (b.drop q) _ (HS2.out _ (((HB.out.below HB2.out).drewN 1).below hb3)) (by rw [HD.out]; omega)).mono ?_; rintro e4 w4 ⟨v4, rfl, ho4, hb4⟩))
    all_goals
      go_wp2_with fail
      refine bodyPost_ret (v := .tuple #[v3, v4, .int .i64 0]) (by simp [results, Try.results32, go_sem]) rfl ?_
      have hle3 := hb3.size
      have o3 := (ho3.below hb4).mono (base' := w.heap.size) hle
      have o4 := ho4.mono (base' := w.heap.size) (Nat.le_trans hle hle3)
      exact ⟨v3, v4, rfl, o3, o4, OwnS.append (a := [v3]) (b := [v4]) (OwnS.one (ho3.mono (base' := w.heap.size) hle)) (OwnS.one ho4) (OwnS.one o3) (OwnS.one o4) (Nat.le_refl _), bel_trans (bel_trans (bel_drewN HB2.out 1) hb3) hb4⟩
end Go.Proofs.Ytdhkhdeblkbojaa
