/- The document's Decode and Split. -/
import Derived.Test.YtdhkhdeblkbojaaRefRead
import Derived.Test.YtdhkhdeblkbojaaGrowC
set_option linter.unusedSimpArgs false
namespace Go.Proofs.Ytdhkhdeblkbojaa
open Go.RowKit
attribute [local go_sem ↓] Go.wp_at_zero Go.wp_at_succ
attribute [local go_sem] size_gr cell_gr frozen_gr setCell_gr gr_drew gr_drewN lt_k lt_kc le_k le_kc sub_kc

theorem dist2 {a b : Value} (h : ∀ g, a.ownBlock = some g → b.ownBlock = some g → False) : Dist [a, b] := fun i j hi hj hij g hg hg' => by
  match i, j, hi, hj with
  | 0, 0, _, _ => exact hij rfl
  | 0, 1, _, _ => exact h g (by simpa using hg) (by simpa using hg')
  | 1, 0, _, _ => exact h g (by simpa using hg') (by simpa using hg)
  | 1, 1, _, _ => exact hij rfl
theorem rdI_fin {n : Nat} {D : Dl} {w W : World} {v0 v1 v2 : Value} {x : It} {sv : List Value} (h : RdI W (Rg n D) v0 v1 v2 x sv) (ha : At n D W) (hn : w.heap.size ≤ n) : RdI W (Made w W) v0 v1 v2 x sv :=
  h.mono fun k hk => ⟨by have := hk.1; omega, by have := hk.2; have := ha.1; omega⟩

set_option maxRecDepth 100000 in
set_option maxHeartbeats 2000000 in
theorem refdec_any (vb : Value) (b : List UInt8) (w : World) (hb : SB w vb b) (hl : b.length ≤ 1099511627776) :
    Calls Try.prog 30 #[vb] w (DecPost w (decR b)) := by
  have HB := Lib.hid hb
  obtain ⟨A, cb, rfl, -⟩ := hb
  by_cases h0 : 1048576 < b.length
  · have HH : Hid (decR b = .bad 0 54) := by show _ = _; unfold decR readR; rw [if_pos h0]
    have h0' : (1048576 : Int) < (b.length : Int) := by omega
    clear h0
    go_enter Try.func30, Try.ntmps30
    go_wp2_with fail
    refine bodyPost_ret (v := .tuple #[.agg #[.bool false, .slice none 0 0, .slice none 0 0], .int .i64 0, .int .i64 54]) (by simp [results, Try.results30, go_sem]) rfl ?_
    rw [HH.out]
    exact ⟨rfl, by (repeat (first | exact Below.refl _ _ | refine bg_al ?_ | refine bg_gr ?_ | refine bg_drn ?_ | refine bg_dr ?_ | assumption))⟩
  · have hR : readR b = decI (2 * b.length + 1) b 0 b.length 0 := by unfold readR; rw [if_neg h0]
    have h0' : ¬ (1048576 : Int) < (b.length : Int) := by omega
    have HC := Lib.hid (fun W (h : Below w.heap.size w W) => refread_any b (.slice A b.length cb) W (by omega) (HB.out.below h))
    rw [← hR] at HC
    clear h0 hR
    cases hI : readR b with
    | bad p c =>
      obtain ⟨hp, hc1, hc2⟩ := readR_bad hI
      rw [hI] at HC
      have HH : Hid (decR b = .bad p c) := by show _ = _; unfold decR; rw [hI]
      have hne : ¬ c = 0 := by omega
      clear hI
      go_enter Try.func30, Try.ntmps30
      go_wp2_with (go_at_call 58; refine (HC.out _ (by (repeat (first | exact Below.refl _ _ | refine bg_al ?_ | refine bg_gr ?_ | refine bg_drn ?_ | refine bg_dr ?_ | assumption)))).mono ?_; rintro en w1 ⟨rfl, hb1⟩; obtain ⟨D1, rfl⟩ := gr_of_below hb1; clear hb1)
      go_region
      go_wp2_with fail
      refine bodyPost_ret (v := .tuple #[.agg #[.bool false, .slice none 0 0, .slice none 0 0], .int .i64 (p : Int), .int .i64 c]) (by simp [results, Try.results30, go_sem]) rfl ?_
      rw [HH.out]
      exact ⟨rfl, by (repeat (first | exact Below.refl _ _ | refine bg_al ?_ | refine bg_gr ?_ | refine bg_drn ?_ | refine bg_dr ?_ | assumption))⟩
    | ok x q =>
      obtain ⟨hq0, hq1, hq2⟩ := readR_ok hI
      rw [hI] at HC
      by_cases h1 : q < b.length
      · have HH : Hid (decR b = .bad q 51) := by show _ = _; unfold decR; rw [hI]; exact if_pos h1
        have h1' : (q : Int) < (b.length : Int) := by omega
        clear hI h1
        go_enter Try.func30, Try.ntmps30
        go_wp2_with (go_at_call 58; refine (HC.out _ (by (repeat (first | exact Below.refl _ _ | refine bg_al ?_ | refine bg_gr ?_ | refine bg_drn ?_ | refine bg_dr ?_ | assumption)))).mono ?_; rintro en w1 ⟨v0, v1, v2, sv, rfl, hit, -, hb1⟩; obtain ⟨l', A1, n1, cc1, A2, n2, cc2, rfl, rfl, rfl⟩ := hit.form; obtain ⟨D1, rfl⟩ := gr_of_below hb1; clear hb1 hit)
        go_region
        go_wp2_with fail
        refine bodyPost_ret (v := .tuple #[.agg #[.bool false, .slice none 0 0, .slice none 0 0], .int .i64 (q : Int), .int .i64 51]) (by simp [results, Try.results30, go_sem]) rfl ?_
        rw [HH.out]
        exact ⟨rfl, by (repeat (first | exact Below.refl _ _ | refine bg_al ?_ | refine bg_gr ?_ | refine bg_drn ?_ | refine bg_dr ?_ | assumption))⟩
      · have HH : Hid (decR b = .ok x q) := by show _ = _; unfold decR; rw [hI]; exact if_neg h1
        have h1' : ¬ (q : Int) < (b.length : Int) := by omega
        clear hI h1
        go_enter Try.func30, Try.ntmps30
        go_wp2_with (go_at_call 58; refine (HC.out _ (by (repeat (first | exact Below.refl _ _ | refine bg_al ?_ | refine bg_gr ?_ | refine bg_drn ?_ | refine bg_dr ?_ | assumption)))).mono ?_; rintro en w1 ⟨v0, v1, v2, sv, rfl, hit, hos, hb1⟩; obtain ⟨l', A1, n1, cc1, A2, n2, cc2, rfl, rfl, rfl⟩ := hit.form; obtain ⟨D1, rfl⟩ := gr_of_below hb1; have HIT := Lib.hid (rdI_at hit); have HOS := Lib.hid (ownS_at hos); clear hb1 hit hos)
        refine bodyPost_ret (v := .tuple #[.agg #[.bool l', .slice A1 n1 cc1, .slice A2 n2 cc2], .int .i64 0, .int .i64 0]) (by simp [results, Try.results30, go_sem]) rfl ?_
        rw [HH.out]
        have hat : At (w.heap.size + 1) D1 (((w.alloc (.cells #[.bool l', .slice A1 n1 cc1, .slice A2 n2 cc2] 42)).gr D1).alloc (.cells #[.bool l', .slice A1 n1 cc1, .slice A2 n2 cc2, .int .i64 (q : Int), .int .i64 0, .int .i64 0] 96)) := by (repeat (first | (refine at_base ?_; simp only [World.size_alloc, size_gr, World.size_setCell, World.size_drew]; done) | (refine at_base ?_; rfl) | refine at_al ?_ | refine at_gr ?_ | refine at_drn ?_ | refine at_dr ?_ | assumption))
        have h3 := HIT.out _ (by simpa using hat)
        have h4 := HOS.out _ (by simpa using hat)
        exact ⟨_, _, _, _, rfl, rdI_fin h3 (by simpa using hat) (by simp), h4.mono (by simp), by (repeat (first | exact Below.refl _ _ | refine bg_al ?_ | refine bg_gr ?_ | refine bg_drn ?_ | refine bg_dr ?_ | assumption))⟩

set_option maxRecDepth 100000 in
set_option maxHeartbeats 2000000 in
theorem refsplit_any (vb : Value) (b : List UInt8) (w : World) (hb : SB w vb b) (hl : b.length ≤ 1099511627776) :
    Calls Try.prog 31 #[vb] w (SplitPost w b (readR b)) := by
  have HB := Lib.hid hb
  obtain ⟨A, cb, rfl, hrd, hcb, hmx, hnn⟩ := hb
  by_cases h0 : 1048576 < b.length
  · have HH : Hid (readR b = .bad 0 54) := by show _ = _; unfold readR; rw [if_pos h0]
    have h0' : (1048576 : Int) < (b.length : Int) := by omega
    clear h0 hrd hnn hmx
    go_enter Try.func31, Try.ntmps31
    go_wp2_with fail
    refine bodyPost_ret (v := .tuple #[.slice none 0 0, .slice none 0 0, .int .i64 54]) (by simp [results, Try.results31, go_sem]) rfl ?_
    rw [HH.out]
    exact ⟨rfl, by (repeat (first | exact Below.refl _ _ | refine bg_al ?_ | refine bg_gr ?_ | refine bg_drn ?_ | refine bg_dr ?_ | assumption))⟩
  · have hR : readR b = decI (2 * b.length + 1) b 0 b.length 0 := by unfold readR; rw [if_neg h0]
    have h0' : ¬ (1048576 : Int) < (b.length : Int) := by omega
    have HC := Lib.hid (fun W (h : Below w.heap.size w W) => refread_any b (.slice A b.length cb) W (by omega) (HB.out.below h))
    rw [← hR] at HC
    clear h0 hR
    cases hI : readR b with
    | bad p c =>
      obtain ⟨hp, hc1, hc2⟩ := readR_bad hI
      rw [hI] at HC
      have hne : ¬ c = 0 := by omega
      clear hI hrd hnn hmx
      go_enter Try.func31, Try.ntmps31
      go_wp2_with (go_at_call 58; refine (HC.out _ (by (repeat (first | exact Below.refl _ _ | refine bg_al ?_ | refine bg_gr ?_ | refine bg_drn ?_ | refine bg_dr ?_ | assumption)))).mono ?_; rintro en w1 ⟨rfl, hb1⟩; obtain ⟨D1, rfl⟩ := gr_of_below hb1; clear hb1)
      go_quiet (fail)
      go_wp2_with fail
      refine bodyPost_ret (v := .tuple #[.slice none 0 0, .slice none 0 0, .int .i64 c]) (by simp [results, Try.results31, go_sem]) rfl ?_
      exact ⟨rfl, by (repeat (first | exact Below.refl _ _ | refine bg_al ?_ | refine bg_gr ?_ | refine bg_drn ?_ | refine bg_dr ?_ | assumption))⟩
    | ok x q =>
      obtain ⟨hq0, hq1, hq2⟩ := readR_ok hI
      rw [hI] at HC
      obtain ⟨bl, off, rfl⟩ : ∃ bl off, A = some ⟨bl, off, none⟩ := by
        obtain ⟨bl, off, e, _⟩ := hrd 0 (by omega)
        exact ⟨bl, off, by simpa using e⟩
      have ht : (b.take q).length = q := by simp; omega
      have hd : (b.drop q).length = b.length - q := by simp
      have hs1 : ∀ W, SB W (.slice (some ⟨bl, off, none⟩) b.length cb) b → SB W (.slice (some ⟨bl, off, none⟩) q cb) (b.take q) := fun W h => by
        obtain ⟨A', c', e, hr, _, _, _⟩ := h
        injection e with e1 e2 e3
        subst e1 e3
        exact ⟨_, _, by rw [ht], hr.take q, by omega, hmx, fun e => by cases e⟩
      have hs2 : ∀ W, SB W (.slice (some ⟨bl, off, none⟩) b.length cb) b → SB W (.slice (cutA (some ⟨bl, off, none⟩) cb q) (b.length - q) (cb - q)) (b.drop q) := fun W h => by
        obtain ⟨A', c', e, hr, _, _, _⟩ := h
        injection e with e1 e2 e3
        subst e1 e3
        refine ⟨_, _, by rw [hd], hr.cut hcb, by omega, by unfold maxLen at hmx ⊢; omega, fun e => ?_⟩
        unfold cutA at e
        split at e <;> cases e
      have HS1 := Lib.hid hs1
      have HS2 := Lib.hid hs2
      have HT := Lib.hid ht
      have HD := Lib.hid hd
      have hsl2 : ∀ W, (Instr.slice 22 (.slice (some ⟨bl, off, none⟩) b.length cb) (some (.int .i64 (q : Int))) none none).run Try.prog W = .ok (.slice (cutA (some ⟨bl, off, none⟩) cb q) (b.length - q) (cb - q)) W := run_slice_from bytesT _ _ _ q hq1
      have hqc : (q : Int) ≤ (cb : Int) := by omega
      have hcm : cb ≤ 9223372036854775807 := by unfold maxLen at hmx; omega
      clear hrd hnn hI hmx hs1 hs2 ht hd
      go_enter Try.func31, Try.ntmps31
      go_upto_region 6 with (go_at_call 58; refine (HC.out _ (by (repeat (first | exact Below.refl _ _ | refine bg_al ?_ | refine bg_gr ?_ | refine bg_drn ?_ | refine bg_dr ?_ | assumption)))).mono ?_; rintro en w1 ⟨v0, v1, v2, sv, rfl, hit, -, hb1⟩; obtain ⟨l', A1, n1, cc1, A2, n2, cc2, rfl, rfl, rfl⟩ := hit.form; obtain ⟨D1, rfl⟩ := gr_of_below hb1; clear hb1 hit)
      refine with_world (fun W0 hW0 => ?_); have hz0 := congrArg (fun W => W.heap.size) hW0; have hc0 := fun (b o : Nat) => congrArg (fun W => World.cell? W ⟨b, o, none⟩) hW0; (try simp only [World.size_alloc, size_gr, World.size_drew] at hz0); (try dsimp only at hc0); have HW0 := Lib.hid hW0; clear hW0
      have hzz : w.heap.size ≤ W0.heap.size := by omega
      have HB0 := Lib.hid (show Below w.heap.size w W0 by rw [HW0.out]; (repeat (first | exact Below.refl _ _ | refine bg_al ?_ | refine bg_gr ?_ | refine bg_drn ?_ | refine bg_dr ?_ | assumption)))
      go_region_held3 (fun W => ∀ (b o : Nat), b < W0.heap.size → W.cell? ⟨b, o, none⟩ = W0.cell? ⟨b, o, none⟩) (exact cellB (by (repeat (first | exact Below.refl _ _ | refine bg_al ?_ | refine bg_gr ?_ | refine bg_drn ?_ | refine bg_dr ?_ | assumption))))
        (first
          | (refine st_e W0.heap.size (b.take q) q HT.out rfl rfl rfl rfl (by (repeat (first | (refine blk_new ?_; first | rfl | (simp only [World.size_alloc, size_gr, World.size_setCell, World.size_drew]; done) | (simp only [World.size_alloc, size_gr, World.size_setCell, World.size_drew]; omega) | omega) | refine blk_dr ?_ | refine blk_drn ?_ | refine blk_al (by simp only [World.size_alloc, size_gr, World.size_setCell, World.size_drew]; omega) ?_ | refine blk_gr (by simp only [World.size_alloc, size_gr, World.size_setCell, World.size_drew]; omega) ?_ | assumption))) (by omega) (by rfl) (HS1.out _ (HB.out.below (bel_trans HB0.out (by (repeat (first | exact Below.refl _ _ | refine bg_al ?_ | refine bg_gr ?_ | refine bg_drn ?_ | refine bg_dr ?_ | assumption)))))) (by rw [HT.out]; omega) ?_; intro D7 A7 c7 ho7 hk7 hc7 hm7; have HO7 := Lib.hid ho7; have HK7 := Lib.hid hk7; clear ho7 hk7)
          | (refine st_e W0.heap.size (b.drop q) (b.length - q) HD.out rfl rfl rfl rfl (by (repeat (first | (refine blk_new ?_; first | rfl | (simp only [World.size_alloc, size_gr, World.size_setCell, World.size_drew]; done) | (simp only [World.size_alloc, size_gr, World.size_setCell, World.size_drew]; omega) | omega) | refine blk_dr ?_ | refine blk_drn ?_ | refine blk_al (by simp only [World.size_alloc, size_gr, World.size_setCell, World.size_drew]; omega) ?_ | refine blk_gr (by simp only [World.size_alloc, size_gr, World.size_setCell, World.size_drew]; omega) ?_ | assumption))) (by omega) (by rfl) (HS2.out _ (HB.out.below (bel_trans HB0.out (by (repeat (first | exact Below.refl _ _ | refine bg_al ?_ | refine bg_gr ?_ | refine bg_drn ?_ | refine bg_dr ?_ | assumption)))))) (by rw [HD.out]; omega) ?_; intro D8 A8 c8 ho8 hk8 hc8 hm8; have HO8 := Lib.hid ho8; have HK8 := Lib.hid hk8; clear ho8 hk8))
      all_goals
        go_wp2_with fail
        (have hW0 := HW0.out; clear HW0 hz0 hc0; (try clear hHeld); subst hW0)
        refine bodyPost_ret (v := .tuple #[.slice A7 q c7, .slice A8 (b.length - q) c8, .int .i64 0]) (by simp [results, Try.results31, go_sem]) rfl ?_
        have k7 := HK7.out
        have k8 := HK8.out
        simp only [World.size_alloc, World.size_drew, size_gr] at k7 k8
        refine ⟨_, _, rfl, (HO7.out.below (by (repeat (first | exact Below.refl _ _ | refine bg_al ?_ | refine bg_gr ?_ | refine bg_drn ?_ | refine bg_dr ?_ | assumption)))).mono hzz, (HO8.out.below (by (repeat (first | exact Below.refl _ _ | refine bg_al ?_ | refine bg_gr ?_ | refine bg_drn ?_ | refine bg_dr ?_ | assumption)))).mono hzz, ⟨fun v hv => ?_, dist2 (fun g h1 h2 => ?_)⟩, by (repeat (first | exact Below.refl _ _ | refine bg_al ?_ | refine bg_gr ?_ | refine bg_drn ?_ | refine bg_dr ?_ | assumption))⟩
        · simp only [List.mem_cons, List.not_mem_nil, or_false] at hv
          rcases hv with rfl | rfl
          · exact ⟨_, (HO7.out.below (by (repeat (first | exact Below.refl _ _ | refine bg_al ?_ | refine bg_gr ?_ | refine bg_drn ?_ | refine bg_dr ?_ | assumption)))).mono hzz⟩
          · exact ⟨_, (HO8.out.below (by (repeat (first | exact Below.refl _ _ | refine bg_al ?_ | refine bg_gr ?_ | refine bg_drn ?_ | refine bg_dr ?_ | assumption)))).mono hzz⟩
        · have := k7 g h1
          have := k8 g h2
          omega
end Go.Proofs.Ytdhkhdeblkbojaa
