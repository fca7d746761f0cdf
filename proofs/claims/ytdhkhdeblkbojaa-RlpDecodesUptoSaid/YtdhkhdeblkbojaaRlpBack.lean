/- cairnlaw05.Back. -/
import Derived.Test.YtdhkhdeblkbojaaRlpLawItem
namespace Go.Proofs.Ytdhkhdeblkbojaa
open Go.RowKit
attribute [local go_sem ↓] Go.wp_at_zero Go.wp_at_succ

theorem ritemsT : SlT Try.prog 40 42 (.agg #[.bool false, .slice none 0 0, .slice none 0 0]) 3 56 := ⟨Try.underlying40, by kernel_rfl, rfl, by decide⟩

theorem own_blk_ne {w : World} {base : Nat} {v : Value} {bs : List UInt8} (h : OwnB w base v bs) {G : Nat} {cs : Array Value} {t : TypeId} {fr : Nat × Nat} (hg : w.heap[G]? = some (.cells cs t fr)) (ht : 5 ≠ t) : v.ownBlock ≠ some G := by
  rcases h.2 with ⟨e, _⟩ | ⟨g, cap, cur, rfl, _, hh, _⟩
  · rw [e]; simp [Value.ownBlock]
  · intro e
    have e' : g = G := by simpa [Value.ownBlock] using e
    subst e'
    rw [hh] at hg
    injection hg with hg
    injection hg with _ h2 _
    exact ht h2
theorem back_meet_a {wb w3 W : World} {l : Bool} {v3 : Value} {bs : List UInt8} (ho : OwnB w3 wb.heap.size v3 bs) (hb : Below wb.heap.size wb w3) (hW : W = w3.alloc (.cells #[.bool l, v3, .slice none 0 0] 42)) :
    ∃ G u3, Value.pointer (some ⟨w3.heap.size, 0, none⟩) = .pointer (some ⟨G, 0, none⟩) ∧ W.heap[G]? = some (.cells #[.bool l, u3, .slice none 0 0] 42 (0, 0)) ∧ OwnB W wb.heap.size u3 bs ∧ wb.heap.size ≤ G ∧ u3.ownBlock ≠ some G ∧ Below wb.heap.size wb W := by
  subst hW
  exact ⟨_, v3, rfl, heap_alloc_new _ _, ho.below ((Below.refl _ _).alloc (Nat.le_refl _) _), hb.size, fun h => by have := (ho.lt _ h).2; omega, hb.alloc hb.size _⟩
theorem back_meet_b {wb w3 W : World} {G : Nat} {l : Bool} {v3 : Value} {bs : List UInt8} (ho : OwnB w3 wb.heap.size v3 bs) (hb : Below wb.heap.size wb w3) (hg : w3.heap[G]? = some (.cells #[.bool false, .slice none 0 0, .slice none 0 0] 42 (0, 0))) (hG : wb.heap.size ≤ G)
    (hW : W = ((w3.setCell ⟨G, 0, none⟩ (.bool l)).setCell ⟨G, 1, none⟩ v3).setCell ⟨G, 2, none⟩ (.slice none 0 0)) :
    ∃ G' u3, Value.pointer (some ⟨G, 0, none⟩) = .pointer (some ⟨G', 0, none⟩) ∧ W.heap[G']? = some (.cells #[.bool l, u3, .slice none 0 0] 42 (0, 0)) ∧ OwnB W wb.heap.size u3 bs ∧ wb.heap.size ≤ G' ∧ u3.ownBlock ≠ some G' ∧ Below wb.heap.size wb W := by
  subst hW
  have hne := own_blk_ne ho hg (by decide)
  have hc := set3 w3 G (.bool l) v3 (.slice none 0 0)
  exact ⟨_, v3, rfl, heap_setCell_same _ G 2 _ _ _ (heap_setCell_same _ G 1 _ _ _ (heap_setCell_same w3 G 0 _ _ (.bool l) hg)), own_chg ho hc (fun k hk e => hne (e ▸ hk)), hG, hne, hb.trans (hc.bel (fun k hk => by omega) hb.size)⟩

set_option maxRecDepth 100000 in
set_option maxHeartbeats 2000000 in
theorem back_any {w : World} {T : Nat → Prop} {v0 v1 v2 : Value} {x : It} {sv : List Value} (h : RdI w T v0 v1 v2 x sv) :
    ∀ (w' : World), Below w.heap.size w w' → wtI x ≤ 1099511627776 → Calls Try.prog 29 #[.agg #[v0, v1, v2]] w' fun e w'' => ∃ u0 u1 u2 sv', e = .returned (.agg #[u0, u1, u2]) ∧ RdI w'' (Made w' w'') u0 u1 u2 x sv' ∧ OwnS w'' w'.heap.size sv' ∧ Below w'.heap.size w' w'' := by
  induction h with
  | mk l v1 bs A c E h1 h1' h2 h3 h4 h4' h5 h6 ih =>
    intro w' hbel hwt
    have hsrc := h5.below hbel
    have hsb := h1.below hbel
    obtain ⟨A1, c1, rfl, hr1, hc1, hm1, -⟩ := hsb
    have HSrc := Lib.hid hsrc
    have HSb := Lib.hid (h1.below hbel)
    have HIh := Lib.hid ih
    have HB := Lib.hid hbel
    unfold maxLen at h3 hm1
    rw [wtI] at hwt
    have hel : E.length ≤ 9223372036854775807 := by omega
    have hbl : bs.length ≤ 1099511627776 := by omega
    have hfm : ∀ (i : Nat) (hi : i < E.length), ∃ l A1 n1 c1 A2 n2 c2, E[i].v0 = .bool l ∧ E[i].v1 = .slice A1 n1 c1 ∧ E[i].v2 = .slice A2 n2 c2 := fun i hi => (h6 E[i] (List.getElem_mem _)).form
    have HFm := Lib.hid hfm
    clear hsrc ih hbel h1 h5 h6 h4 h4' h1' hfm hr1
    go_enter Try.func29, Try.ntmps29
    obtain ⟨al, hi0, hi1, hs2⟩ := al2 w' (.cells #[.bool l, .slice A1 bs.length c1, .slice A E.length c] 46) (.cells #[.bool false, .slice none 0 0, .slice none 0 0] 42)
    have HAL := Lib.hid al
    have HI0 := Lib.hid hi0
    have HI1 := Lib.hid hi1
    have hsb2 := HSb.out.below al
    have HSb2 := Lib.hid hsb2
    have kb0 := cell_of_row _ w'.heap.size 0 _ _ _ hi0
    have kb1 := cell_of_row _ w'.heap.size 1 _ _ _ hi0
    have kb2 := cell_of_row _ w'.heap.size 2 _ _ _ hi0
    have HS2 := Lib.hid hs2
    clear al hi0 hi1 hsb2 hs2
    go_upto_region 1 with (fail)
    generalize (w'.alloc (.cells #[.bool l, .slice A1 bs.length c1, .slice A E.length c] 46)).alloc (.cells #[.bool false, .slice none 0 0, .slice none 0 0] 42) = wb at HAL HI0 HI1 HSb2 kb0 kb1 kb2 HS2 ⊢
    have kb0' : wb.cell? ⟨w'.heap.size, 0, none⟩ = some (.bool l) := kb0
    have kb1' : wb.cell? ⟨w'.heap.size, 1, none⟩ = some (.slice A1 bs.length c1) := kb1
    have hsb' : w'.heap.size ≤ wb.heap.size := HAL.out.size
    have hwz : w'.heap.size < wb.heap.size := by have := HS2.out; omega
    clear kb0 kb1 kb2
    go_cut [3] (fun s3 wG => ∃ G v3, s3 = .pointer (some ⟨G, 0, none⟩) ∧ wG.heap[G]? = some (.cells #[.bool l, v3, .slice none 0 0] 42 (0, 0)) ∧ OwnB wG wb.heap.size v3 bs ∧ wb.heap.size ≤ G ∧ v3.ownBlock ≠ some G ∧ Below wb.heap.size wb wG)
    case first =>
      go_region_held3 (fun W => W.cell? ⟨w'.heap.size, 0, none⟩ = some (.bool l) ∧ W.cell? ⟨w'.heap.size, 1, none⟩ = some (.slice A1 bs.length c1)) (first | exact ⟨kb0', kb1'⟩ | exact ⟨ka0, ka1⟩ | exact ⟨ka0' _, ka1' _⟩ | exact ⟨chg_cell (set3 _ _ _ _ _) ka0 (by simp only; omega), chg_cell (set3 _ _ _ _ _) ka1 (by simp only; omega)⟩ | go_keep)
       ((refine step_ap (base := wb.heap.size) (v := .slice (some ⟨_, 0, none⟩) 0 0) bytesT (by rfl) (by rfl) (by rfl) (by first | exact own_lit _ #[] 5 (n := 0) (by simp) (by simp [maxLen]) (by rfl) | exact lit_at _ #[] 5 (n := 0) (by simp) (by simp) (by simp [maxLen]) (by rfl) | exact own_below (lit_at _ #[] 5 (n := 0) (by simp) (by simp) (by simp [maxLen]) (by rfl)) ((Below.refl _ _).drew) | exact own_below (own_lit _ #[] 5 (n := 0) (by simp) (by simp [maxLen]) (by rfl)) ((Below.refl _ _).drew) | exact own_below (own_lit _ #[] 5 (n := 0) (by simp) (by simp [maxLen]) (by rfl)) (((Below.refl _ _).alloc (Nat.le_refl _) _).drew) | exact own_below (own_lit _ #[] 5 (n := 0) (by simp) (by simp [maxLen]) (by rfl)) ((Below.refl _ _).alloc (Nat.le_refl _) _)) (by rfl) ((HSb2.out.below (by first | exact ((Below.refl _ _).alloc (Nat.le_refl _) _) | exact ((Below.refl _ _).alloc (Nat.le_refl _) _).drew | exact (((Below.refl _ _).alloc (Nat.le_refl _) _).alloc (by simp) _) | exact (((Below.refl _ _).alloc (Nat.le_refl _) _).alloc (by simp) _).drew)).src) (bv_one bs) (by simp only [maxLen]; omega) (by omega) (by simp; try omega) ?_; intro v3 w3 hap; have HO3 := Lib.hid (OwnB.of (l := bs) hap.1 (by simp)); obtain ⟨A3, c3, rfl, -⟩ := HO3.out.form; have HBW := Lib.hid (ap_below (B := wb.heap.size) (a := wb) (by first | exact ((Below.refl _ _).alloc (Nat.le_refl _) _) | exact ((Below.refl _ _).alloc (Nat.le_refl _) _).drew | exact (((Below.refl _ _).alloc (Nat.le_refl _) _).alloc (by simp) _) | exact (((Below.refl _ _).alloc (Nat.le_refl _) _).alloc (by simp) _).drew) hap (by simp; try omega) (fun k hk => by simp [Value.ownBlock] at hk; omega)); have ka0 : w3.cell? ⟨w'.heap.size, 0, none⟩ = some (.bool l) := ap_cell hap (fun k hk => by simp [Value.ownBlock] at hk; simp only; omega) (by go_keep); have ka1 : w3.cell? ⟨w'.heap.size, 1, none⟩ = some (.slice A1 bs.length c1) := ap_cell hap (fun k hk => by simp [Value.ownBlock] at hk; simp only; omega) (by go_keep); have ka0' : ∀ o, (w3.alloc o).cell? ⟨w'.heap.size, 0, none⟩ = some (.bool l) := (fun o => chg_cell ((Chg.refl (fun _ => False) w3).alloc o) ka0 (fun h => h)); have ka1' : ∀ o, (w3.alloc o).cell? ⟨w'.heap.size, 1, none⟩ = some (.slice A1 bs.length c1) := (fun o => chg_cell ((Chg.refl (fun _ => False) w3).alloc o) ka1 (fun h => h)); (first
          | (have hg : w3.heap[wb.heap.size + 1]? = some (.cells #[.bool false, .slice none 0 0, .slice none 0 0] 42 (0, 0)) := (hap.2.1.block _ (by simp; try omega) (by simp [Value.ownBlock])).trans (heap_alloc2_new _ _ _); have c0 : w3.cell? ⟨wb.heap.size + 1, 0, none⟩ = some (.bool false) := cell_of_row w3 _ 0 _ _ _ hg; have cc1 : w3.cell? ⟨wb.heap.size + 1, 1, none⟩ = some (.slice none 0 0) := cell_of_row w3 _ 1 _ _ _ hg; have cc2 : w3.cell? ⟨wb.heap.size + 1, 2, none⟩ = some (.slice none 0 0) := cell_of_row w3 _ 2 _ _ _ hg; have f0 : w3.frozen? ⟨wb.heap.size + 1, 0, none⟩ = false := frozen_of_row w3 _ 0 _ _ hg; have f1 : w3.frozen? ⟨wb.heap.size + 1, 1, none⟩ = false := frozen_of_row w3 _ 1 _ _ hg; have f2 : w3.frozen? ⟨wb.heap.size + 1, 2, none⟩ = false := frozen_of_row w3 _ 2 _ _ hg; have HG := Lib.hid hg; clear hg)
          | (have hg : w3.heap[wb.heap.size]? = some (.cells #[.bool false, .slice none 0 0, .slice none 0 0] 42 (0, 0)) := (hap.2.1.block _ (by simp; try omega) (by simp [Value.ownBlock])).trans (heap_alloc2_old _ _ _); have c0 : w3.cell? ⟨wb.heap.size, 0, none⟩ = some (.bool false) := cell_of_row w3 _ 0 _ _ _ hg; have cc1 : w3.cell? ⟨wb.heap.size, 1, none⟩ = some (.slice none 0 0) := cell_of_row w3 _ 1 _ _ _ hg; have cc2 : w3.cell? ⟨wb.heap.size, 2, none⟩ = some (.slice none 0 0) := cell_of_row w3 _ 2 _ _ _ hg; have f0 : w3.frozen? ⟨wb.heap.size, 0, none⟩ = false := frozen_of_row w3 _ 0 _ _ hg; have f1 : w3.frozen? ⟨wb.heap.size, 1, none⟩ = false := frozen_of_row w3 _ 1 _ _ hg; have f2 : w3.frozen? ⟨wb.heap.size, 2, none⟩ = false := frozen_of_row w3 _ 2 _ _ hg; have HG := Lib.hid hg; clear hg)
          | skip)))
      all_goals
        go_wp2_with fail
        go_meet
        first
          | exact back_meet_a HO3.out HBW.out rfl
          | exact back_meet_b HO3.out HBW.out HG.out (by omega) rfl
          | exact back_meet_b HO3.out HBW.out HG.out (Nat.le_refl _) rfl
    case rest =>
      obtain ⟨G, v3, rfl, hGb, hown, hwG0, hne, hbG⟩ := hcut
      obtain ⟨A3, c3, rfl, -⟩ := hown.form
      have hwc : Below w'.heap.size w' wc := bel_trans HAL.out hbG
      have hGz : G < wc.heap.size := World.block_lt_of_cell? wc ⟨G, 0, none⟩ (cell_of_row wc G 0 _ _ _ hGb)
      have k2 : wc.cell? ⟨w'.heap.size, 2, none⟩ = some (.slice A E.length c) := cell_of_row wc w'.heap.size 2 _ _ _ ((hbG.block _ hwz).trans HI0.out)
      have hst : BoxRel 42 (fun _ _ => True) G wc.heap.size wc wc (.bool l) (.slice A3 bs.length c3) (.slice none 0 0) [] := BoxRel.start hGb rfl hGz
      have HSt := Lib.hid hst
      have HWG := Lib.hid hwc
      have HBG := Lib.hid hbG
      have HOwn := Lib.hid hown
      have HNe := Lib.hid hne
      have hlw := len_wt (E.map (·.x))
      rw [List.length_map] at hlw
      have hEl : E.length ≤ 1099511627776 := by omega
      have hwL : wtL (E.map (·.x)) ≤ 1099511627776 := by omega
      have HWL := Lib.hid hwL
      have hwcz : w'.heap.size < G := by omega
      have hwcs := hwc.size
      clear hGb hown hne hbG hwc hst hlw hwL kb0' kb1'
      go_wp2_with fail
      go_loopw [16] (fun v wr => ∃ (i : Nat) (V : Value) (E' : List Ent), i ≤ E.length ∧ v = .int .i64 i ∧ BoxRel 42 (fun _ _ => True) G wc.heap.size wc wr (.bool l) (.slice A3 bs.length c3) V E' ∧ E'.map (·.x) = (E.map (·.x)).take i ∧ E'.length = i) (fun v _ => E.length - (intOf v).toNat)
      case atStart => exact ⟨0, _, [], by omega, rfl, HSt.out, by simp, rfl⟩
      case round =>
        obtain ⟨i, V, E', hi, rfl, hrel, hmap, rfl⟩ := hrel
        have hwr : Below w'.heap.size w' wr := HWG.out.trans (hrel.chg.bel (fun k hk => by omega) (by have := HWG.out.size; omega))
        by_cases h1 : E'.length < E.length
        · obtain ⟨b, off, rfl, e0, e1, e2⟩ := ent_cell (HSrc.out.below hwr) h1
          have h1i : (E'.length : Int) < (E.length : Int) := by omega
          have hi0 : (0 : Int) ≤ (E'.length : Int) := by omega
          obtain ⟨l2, A5, n5, c5, A6, n6, c6, f0, f1, f2⟩ := HFm.out _ h1
          have hwx := wtL_mem h1
          have hwl := HWL.out
          rw [f0] at e0
          rw [f1] at e1
          rw [f2] at e2
          have hy : Below wr.heap.size wr (wr.alloc (.cells #[.bool l2, .slice A5 n5 c5, .slice A6 n6 c6] 46)) := (Below.refl _ _).alloc (Nat.le_refl _) _
          have hyb := heap_alloc_new wr (.cells #[.bool l2, .slice A5 n5 c5, .slice A6 n6 c6] 46)
          have HY := Lib.hid hy
          have HYB := Lib.hid hyb
          have HRel := Lib.hid hrel
          have HWR := Lib.hid hwr
          have hws := hwr.size
          have hmap2 := map_snoc hmap h1
          have HMap := Lib.hid hmap2
          clear hy hyb hrel hwr hmap hmap2
          go_wp2_with fail
          generalize wr.alloc (.cells #[.bool l2, .slice A5 n5 c5, .slice A6 n6 c6] 46) = wy at HY HYB ⊢
          have hr2 := HRel.out.kept local_true HY.out
          have HRel2 := Lib.hid hr2
          have hcV : wy.cell? ⟨G, 2, none⟩ = some V := by rw [cell_of_row wy _ 2 _ _ _ hr2.blk]; rfl
          have hfV : wy.frozen? ⟨G, 2, none⟩ = false := frozen_of_row _ _ _ _ _ hr2.blk
          have y0 : wy.cell? ⟨wr.heap.size, 0, none⟩ = some (.bool l2) := by rw [cell_of_row wy _ 0 _ _ _ HYB.out]; rfl
          have y1 : wy.cell? ⟨wr.heap.size, 1, none⟩ = some (.slice A5 n5 c5) := by rw [cell_of_row wy _ 1 _ _ _ HYB.out]; rfl
          have y2 : wy.cell? ⟨wr.heap.size, 2, none⟩ = some (.slice A6 n6 c6) := by rw [cell_of_row wy _ 2 _ _ _ HYB.out]; rfl
          have hrow := hr2.row
          have hVH : ∀ k, V.ownBlock = some k → wc.heap.size ≤ k := own_ge hrow
          have HVH := Lib.hid hVH
          have HRow := Lib.hid hrow
          have hyz := HY.out.size
          have hc := HIh.out E[E'.length] (List.getElem_mem _) wy.drew ((bel_trans (bel_trans HB.out HWR.out) HY.out).drew) (by omega)
          rw [f0, f1, f2] at hc
          have HC := Lib.hid hc
          have hn1 : E'.length ≤ 1099511627776 := by omega
          have hcz : wc.heap.size ≤ wr.heap.size := HRel.out.chg.size
          have hwyG : G < wy.heap.size := World.block_lt_of_cell? wy _ hcV
          clear hr2 hrow hVH hc f0 f1 f2 hwx hwl
          go_region_law (first
            | (refine step_ap ritemsT (by rfl) (by rfl) (by rfl) (own_below HRow2.out ((Below.refl _ _).alloc (Nat.le_refl _) _)) (by rfl) (Src.block (m := 1) (heap_alloc_new _ _) (by rfl)) hrd.cells (by simp only [maxLen]; omega) (by omega) (by simp; omega) ?_; intro v9 w9 hap; obtain ⟨g9, c9, rfl, hc9, hm9, hb9, hlt9⟩ := own_form hap.1 (by omega); obtain ⟨k9, z9⟩ := hold_ap hap (fun k hk => by have := HVH.out k hk; simp only; omega) (hold_chg ((Chg.refl (fun _ => False) w2).alloc _) HK.out (fun h => h)))
            | (go_simp; go_at_call 29; refine (HC.out.mono ?_); rintro en w2 ⟨v0, v1, v2, sv, rfl, hrd, hos, hbd⟩; obtain ⟨l', A1, n1, cc1, A2, n2, cc2, rfl, rfl, rfl⟩ := hrd.form; have HBD := Lib.hid (bel_undrewN (n := 1) hbd); have HRow2 := Lib.hid (own_below HRow.out HBD.out); have HK := Lib.hid (hold_chg (Below.chg (fun _ => False) HBD.out) ⟨hcV, hfV⟩ (fun h => h)); have hcV2 := HK.out.1; have hcV3 : ∀ o, (w2.alloc o).cell? ⟨G, 2, none⟩ = some V := (fun o => (hold_chg ((Chg.refl (fun _ => False) w2).alloc o) HK.out (fun h => h)).1); have y03 : ∀ o, (w2.alloc o).cell? ⟨wr.heap.size, 0, none⟩ = some (.bool l2) := (fun o => chg_cell ((Below.chg (fun _ => False) HBD.out).alloc o) y0 (fun h => h)); have hb2 : wy.heap.size ≤ w2.heap.size := HBD.out.size))
          all_goals go_wp2_with fail
          all_goals
            have hL := BoxRel.round local_true (by decide) HRel2.out HBD.out hrd hos (fun _ _ => trivial) hap
            exact ⟨⟨E'.length + 1, _, _, by omega, by go_num, hL, by rw [List.map_append]; exact HMap.out, by simp⟩, by simp [intOf]; omega⟩
        · have hEE : E'.map (·.x) = E.map (·.x) := by rw [hmap, List.take_of_length_le (by simp; omega)]
          have h1i : ¬ (E'.length : Int) < (E.length : Int) := by omega
          have hR := (HBG.out.block (w'.heap.size + 1) (by have := HS2.out; omega)).trans HI1.out
          have hR3 := (hrel.chg.block (w'.heap.size + 1) (by have := HS2.out; omega) (by have := HS2.out; omega)).trans hR
          obtain ⟨AV, cV, rfl, -⟩ := Src.own hrel.row
          have g0 : wr.cell? ⟨G, 0, none⟩ = some (.bool l) := cell_of_row wr G 0 _ _ _ hrel.blk
          have g1 : wr.cell? ⟨G, 1, none⟩ = some (.slice A3 bs.length c3) := cell_of_row wr G 1 _ _ _ hrel.blk
          have g2 : wr.cell? ⟨G, 2, none⟩ = some (.slice AV E'.length cV) := cell_of_row wr G 2 _ _ _ hrel.blk
          have r0 : wr.cell? ⟨w'.heap.size + 1, 0, none⟩ = some (.bool false) := cell_of_row wr (w'.heap.size + 1) 0 _ _ _ hR3
          have r1 : wr.cell? ⟨w'.heap.size + 1, 1, none⟩ = some (.slice none 0 0) := cell_of_row wr (w'.heap.size + 1) 1 _ _ _ hR3
          have r2 : wr.cell? ⟨w'.heap.size + 1, 2, none⟩ = some (.slice none 0 0) := cell_of_row wr (w'.heap.size + 1) 2 _ _ _ hR3
          have z0 := frozen_of_row wr (w'.heap.size + 1) 0 _ _ hR3
          have z1 := frozen_of_row wr (w'.heap.size + 1) 1 _ _ hR3
          have z2 := frozen_of_row wr (w'.heap.size + 1) 2 _ _ hR3
          have HRel := Lib.hid hrel
          have HEE := Lib.hid hEE
          have hRG : w'.heap.size + 1 < G := by have := HS2.out; omega
          clear hrel hwr hmap hEE hR hR3
          go_wp2
          refine bodyPost_ret (v := .agg #[.bool l, .slice A3 bs.length c3, .slice AV E'.length cV]) (by simp [results, Try.results29, go_sem, r0, r1, r2]) rfl ?_
          rw [← HEE.out]
          obtain ⟨u0, u1, u2, sv', e, hh⟩ := law_item_out (R := w'.heap.size + 1) (base := wb.heap.size) HWG.out HRel.out (by have := HS2.out; omega) HOwn.out HNe.out trivial (by omega) (set3 wr (w'.heap.size + 1) (.bool l) (.slice A3 bs.length c3) (.slice AV E'.length cV)) local_true hwG0
          exact ⟨u0, u1, u2, e, sv', hh.1, hh.2.1, hh.2.2.2⟩
end Go.Proofs.Ytdhkhdeblkbojaa
