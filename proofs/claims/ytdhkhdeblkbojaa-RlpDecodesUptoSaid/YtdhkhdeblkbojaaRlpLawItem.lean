/- cairnlaw05.Item. -/
import Derived.Test.YtdhkhdeblkbojaaRlpBox
namespace Go.Proofs.Ytdhkhdeblkbojaa
open Go.RowKit
attribute [local go_sem ↓] Go.wp_at_zero Go.wp_at_succ

/-- behind the string stands the mark -/
def Marked (w : World) (v : Value) : Prop := ∃ g n c, v = .slice (some ⟨g, 0, none⟩) n c ∧ n + 1 ≤ c ∧ w.cell? ⟨g, n, none⟩ = some (.int .u8 90)
theorem local_marked : Local Marked := fun w w' v h ⟨g, n, c, e, h1, h2⟩ => ⟨g, n, c, e, h1, by
  rw [World.cell?_of_block (h g (by rw [e]; rfl))]
  exact h2⟩

theorem law_item_out {t : TypeId} {Gd : World → Value → Prop} {w' wG wr W : World} {base G N c R : Nat} {AV : Option Addr} {E : List Ent} {l : Bool} {bs : List UInt8} {v1 : Value} (hwG : Below w'.heap.size w' wG)
    (hrel : BoxRel t Gd G N wG wr (.bool l) v1 (.slice AV E.length c) E) (hR : R < base) (hown : OwnB wG base v1 bs) (hne : v1.ownBlock ≠ some G)
    (hgd : Gd wG v1) (hbase : w'.heap.size ≤ R) (hW : Chg (· = R) wr W) (hL : Local Gd) (hbG : base ≤ G) :
    ∃ u0 u1 u2 sv', Ending.returned (.agg #[.bool l, v1, .slice AV E.length c]) = .returned (.agg #[u0, u1, u2]) ∧ RdI W (Made w' W) u0 u1 u2 (.mk l bs (E.map (·.x))) sv' ∧ OwnS W w'.heap.size sv' ∧ (∀ v ∈ sv', Gd W v) ∧ Below w'.heap.size w' W := by
  have hz := hrel.size
  have hl := hrel.lt
  have hzw := hwG.size
  have hzr := hrel.chg.size
  have hzW := hW.size
  have hlt := hown.lt
  have hown2 : OwnB wr base v1 bs := own_chg hown hrel.chg (fun k hk e => hne (e ▸ hk))
  have hown3 : OwnB W base v1 bs := own_chg hown2 hW (fun k hk e => by have := hlt k hk; omega)
  refine ⟨_, _, _, _, rfl, hrel.out hW (by omega) hown3.sb ((hown3.mono (base' := w'.heap.size) (by omega)).fr) (fun k h1 h2 => by unfold Made; omega), ?_, ?_, ?_⟩
  · exact OwnS.append (a := [v1]) (w1 := wG) (b2 := N) (OwnS.one (hown.mono (by omega))) hrel.str (OwnS.one (hown3.mono (by omega))) ((hrel.str.chg hW (fun k hk => by omega)).mono (by omega)) (by omega)
  · intro v hv
    rcases List.mem_cons.1 hv with rfl | hv
    · refine hL _ _ _ (fun k hk => ?_) hgd
      have := hlt k hk
      exact (hW.block k (by omega) (by omega)).trans (hrel.chg.block k (by omega) (fun e => hne (e ▸ hk)))
    · refine hL _ _ v (fun k hk => hW.block k ?_ ?_) (hrel.gd v hv)
      · obtain ⟨l, hl⟩ := hrel.str.1 v hv
        exact (hl.lt k hk).2
      · obtain ⟨l, hl⟩ := hrel.str.1 v hv
        have := (hl.lt k hk).1
        omega
  · exact ⟨hW.os.trans (hrel.chg.os.trans hwG.os), hW.tape.trans (hrel.chg.tape.trans hwG.tape), hW.output.trans (hrel.chg.output.trans hwG.output), by omega, fun k hk => (hW.block k (by omega) (by omega)).trans ((hrel.chg.block k (by omega) (by omega)).trans (hwG.block k hk))⟩

set_option maxRecDepth 100000 in
set_option maxHeartbeats 2000000 in
theorem item_any {w : World} {T : Nat → Prop} {v0 v1 v2 : Value} {x : It} {sv : List Value} (h : RdI w T v0 v1 v2 x sv) :
    ∀ (w' : World), Below w.heap.size w w' → wtI x ≤ 1099511627776 → Calls Try.prog 26 #[.agg #[v0, v1, v2]] w' fun e w'' => ∃ u0 u1 u2 sv', e = .returned (.agg #[u0, u1, u2]) ∧ RdI w'' (Made w' w'') u0 u1 u2 x sv' ∧ OwnS w'' w'.heap.size sv' ∧ (∀ v ∈ sv', Marked w'' v) ∧ Below w'.heap.size w' w'' := by
  induction h with
  | mk l v1 bs A c E h1 h1' h2 h3 h4 h4' h5 h6 ih =>
    intro w' hbel hwt
    have hsrc := h5.below hbel
    have hsb := h1.below hbel
    obtain ⟨A1, c1, rfl, hr1, hc1, hm1, -⟩ := hsb
    have HSrc := Lib.hid hsrc
    have HSb := Lib.hid (h1.below hbel)
    have HIh := Lib.hid ih
    have HB := Lib.hid hbel
    unfold maxLen at h3 hm1
    rw [wtI] at hwt
    have hel : E.length ≤ 9223372036854775807 := by omega
    have hbl : bs.length ≤ 1099511627776 := by omega
    have hfm : ∀ (i : Nat) (hi : i < E.length), ∃ l A1 n1 c1 A2 n2 c2, E[i].v0 = .bool l ∧ E[i].v1 = .slice A1 n1 c1 ∧ E[i].v2 = .slice A2 n2 c2 := fun i hi => (h6 E[i] (List.getElem_mem _)).form
    have HFm := Lib.hid hfm
    clear hsrc ih hbel h1 h5 h6 h4 h4' h1' hfm hr1
    go_enter Try.func26, Try.ntmps26
    obtain ⟨al, hi0, hi1, hs2⟩ := al2 w' (.cells #[.bool l, .slice A1 bs.length c1, .slice A E.length c] 42) (.cells #[.bool false, .slice none 0 0, .slice none 0 0] 46)
    have HAL := Lib.hid al
    have HI0 := Lib.hid hi0
    have HI1 := Lib.hid hi1
    have hsb2 := HSb.out.below al
    have HSb2 := Lib.hid hsb2
    have kb := cell_of_row _ w'.heap.size 1 _ _ _ hi0
    clear al hi0 hi1 hsb2
    have HS2 := Lib.hid hs2
    clear hs2
    go_upto_region 1 with (fail)
    generalize (w'.alloc (.cells #[.bool l, .slice A1 bs.length c1, .slice A E.length c] 42)).alloc (.cells #[.bool false, .slice none 0 0, .slice none 0 0] 46) = wb at HAL HI0 HI1 HSb2 kb HS2 ⊢
    simp only [List.getElem?_toArray, List.getElem?_cons_zero, List.getElem?_cons_succ] at kb
    have kb' : wb.cell? ⟨w'.heap.size, 1, none⟩ = some (.slice A1 bs.length c1) := kb
    have kb2 : ∀ o, (wb.alloc o).cell? ⟨w'.heap.size, 1, none⟩ = some (.slice A1 bs.length c1) := fun o => chg_cell ((Chg.refl (fun _ => False) wb).alloc o) kb' (fun h => h)
    clear kb
    have hsb' : w'.heap.size ≤ wb.heap.size := HAL.out.size
    go_wp2_with (at_builtin; (first
      | (refine wpList_ap (s := .tmp 7) (x := .tmp 9) bytesT rfl rfl (by rfl) (own_lit wb #[] 5 (n := 0) (Nat.le_refl _) (by simp [maxLen]) (by rfl)) (by rfl) ((HSb2.out.below ((Below.refl _ _).alloc (Nat.le_refl _) _)).src) (bv_one bs) (by simp only [maxLen]; omega) (by omega) (by simp) ?_; intro v3 w3 hap)
      | (refine wpList_ap (s := .tmp 10) (x := .tmp 11) bytesT rfl rfl (by rfl) (own_below hap.1 ((Below.refl _ _).alloc (Nat.le_refl _) _)) (by rfl) (Src.block (m := 1) (heap_alloc_new _ _) (by rfl)) (by simp [Value.oneCell']) (by simp only [maxLen]; omega) (by omega) (by have := hap.2.1.size; simp at this ⊢; omega) ?_; intro v4 w4 hap2)))
    have hB4 : Below wb.heap.size wb w4 := by
      have h3 := ap_below ((Below.refl wb.heap.size wb).alloc (Nat.le_refl _) (.cells #[] 5)) hap (by simp) (fun k hk => by simp [Value.ownBlock] at hk; omega)
      have hz := h3.size
      refine ap_below (h3.alloc hz _) hap2 (by simp; omega) (fun k hk => ?_)
      rcases own_or hap k hk with h | h
      · simp [Value.ownBlock] at h; omega
      · simp at h; omega
    obtain ⟨g4, c4, rfl, hc4, hm4, hb4, hlt4⟩ := own_form hap2.1 (by omega)
    have hz4 := hB4.size
    have hwz : w'.heap.size < wb.heap.size := by have := HS2.out; omega
    have hbx := (hB4.block _ hwz).trans HI0.out
    have k0 : w4.cell? ⟨w'.heap.size, 0, none⟩ = some (.bool l) := cell_of_row w4 w'.heap.size 0 _ _ _ hbx
    have k1 : w4.cell? ⟨w'.heap.size, 1, none⟩ = some (.slice A1 bs.length c1) := cell_of_row w4 w'.heap.size 1 _ _ _ hbx
    have k2 : w4.cell? ⟨w'.heap.size, 2, none⟩ = some (.slice A E.length c) := cell_of_row w4 w'.heap.size 2 _ _ _ hbx
    have HB4 := Lib.hid hB4
    have HAp := Lib.hid hap2
    unfold maxLen at hm4
    have hcc : (bs.length : Int) ≤ (c4 : Int) := by omega
    have k0' : ∀ o, (w4.alloc o).cell? ⟨w'.heap.size, 0, none⟩ = some (.bool l) := fun o => chg_cell ((Chg.refl (fun _ => False) w4).alloc o) k0 (fun h => h)
    have k1' : ∀ o, (w4.alloc o).cell? ⟨w'.heap.size, 1, none⟩ = some (.slice A1 bs.length c1) := fun o => chg_cell ((Chg.refl (fun _ => False) w4).alloc o) k1 (fun h => h)
    have k2' : ∀ o, (w4.alloc o).cell? ⟨w'.heap.size, 2, none⟩ = some (.slice A E.length c) := fun o => chg_cell ((Chg.refl (fun _ => False) w4).alloc o) k2 (fun h => h)
    clear hB4 hbx hap2 hap kb' kb2
    go_region
    go_wp2_with fail
    have hGb := heap_alloc_new w4 (.cells #[.bool l, .slice (some ⟨g4, 0, none⟩) bs.length c4, .slice none 0 0] 46)
    have hGs : (w4.alloc (.cells #[.bool l, .slice (some ⟨g4, 0, none⟩) bs.length c4, .slice none 0 0] 46)).drew.heap.size = w4.heap.size + 1 := by simp
    have hGl : Below w4.heap.size w4 (w4.alloc (.cells #[.bool l, .slice (some ⟨g4, 0, none⟩) bs.length c4, .slice none 0 0] 46)).drew := ((Below.refl _ _).alloc (Nat.le_refl _) _).drew
    have hGb' : (w4.alloc (.cells #[.bool l, .slice (some ⟨g4, 0, none⟩) bs.length c4, .slice none 0 0] 46)).drew.heap[w4.heap.size]? = some (.cells #[.bool l, .slice (some ⟨g4, 0, none⟩) bs.length c4, .slice none 0 0] 46 (0, 0)) := hGb
    generalize (w4.alloc (.cells #[.bool l, .slice (some ⟨g4, 0, none⟩) bs.length c4, .slice none 0 0] 46)).drew = wG at hGs hGl hGb' ⊢
    have hwG : Below w'.heap.size w' wG := bel_trans (bel_trans HAL.out HB4.out) hGl
    have HWG := Lib.hid hwG
    have HGl := Lib.hid hGl
    have hst : BoxRel 46 Marked w4.heap.size (w4.heap.size + 1) wG wG (.bool l) (.slice (some ⟨g4, 0, none⟩) bs.length c4) (.slice none 0 0) [] := BoxRel.start hGb' hGs (by omega)
    have HSt := Lib.hid hst
    have hlw := len_wt (E.map (·.x))
    rw [List.length_map] at hlw
    have hEl : E.length ≤ 1099511627776 := by omega
    have hwL : wtL (E.map (·.x)) ≤ 1099511627776 := by omega
    have HWL := Lib.hid hwL
    have hw4 : w'.heap.size ≤ w4.heap.size := by omega
    clear hGb hGl hGb' hwG hst hlw hwL k0 k1 k2 k0' k1' k2'
    generalize hG : w4.heap.size = G at HSt hGs ⊢
    go_loopw [24] (fun v wr => ∃ (i : Nat) (V : Value) (E' : List Ent), i ≤ E.length ∧ v = .int .i64 i ∧ BoxRel 46 Marked G (G + 1) wG wr (.bool l) (.slice (some ⟨g4, 0, none⟩) bs.length c4) V E' ∧ E'.map (·.x) = (E.map (·.x)).take i ∧ E'.length = i) (fun v _ => E.length - (intOf v).toNat)
    case atStart => exact ⟨0, _, [], by omega, rfl, HSt.out, by simp, rfl⟩
    case round =>
      obtain ⟨i, V, E', hi, rfl, hrel, hmap, rfl⟩ := hrel
      have hwr : Below w'.heap.size w' wr := HWG.out.trans (hrel.chg.bel (fun k hk => by omega) (by have := HWG.out.size; omega))
      by_cases h1 : E'.length < E.length
      · obtain ⟨b, off, rfl, e0, e1, e2⟩ := ent_cell (HSrc.out.below hwr) h1
        have h1i : (E'.length : Int) < (E.length : Int) := by omega
        have hi0 : (0 : Int) ≤ (E'.length : Int) := by omega
        obtain ⟨l2, A5, n5, c5, A6, n6, c6, f0, f1, f2⟩ := HFm.out _ h1
        have hwx := wtL_mem h1
        have hwl := HWL.out
        rw [f0] at e0
        rw [f1] at e1
        rw [f2] at e2
        have hy : Below wr.heap.size wr (wr.alloc (.cells #[.bool l2, .slice A5 n5 c5, .slice A6 n6 c6] 42)) := (Below.refl _ _).alloc (Nat.le_refl _) _
        have hyb := heap_alloc_new wr (.cells #[.bool l2, .slice A5 n5 c5, .slice A6 n6 c6] 42)
        have HY := Lib.hid hy
        have HYB := Lib.hid hyb
        have HRel := Lib.hid hrel
        have HWR := Lib.hid hwr
        have hws := hwr.size
        have hmap2 := map_snoc hmap h1
        have HMap := Lib.hid hmap2
        clear hy hyb hrel hwr hmap hmap2
        go_wp2_with fail
        generalize wr.alloc (.cells #[.bool l2, .slice A5 n5 c5, .slice A6 n6 c6] 42) = wy at HY HYB ⊢
        have hr2 := HRel.out.kept local_marked HY.out
        have HRel2 := Lib.hid hr2
        have hcV : wy.cell? ⟨G, 2, none⟩ = some V := by rw [cell_of_row wy _ 2 _ _ _ hr2.blk]; rfl
        have hfV : wy.frozen? ⟨G, 2, none⟩ = false := frozen_of_row _ _ _ _ _ hr2.blk
        have y0 : wy.cell? ⟨wr.heap.size, 0, none⟩ = some (.bool l2) := by rw [cell_of_row wy _ 0 _ _ _ HYB.out]; rfl
        have y1 : wy.cell? ⟨wr.heap.size, 1, none⟩ = some (.slice A5 n5 c5) := by rw [cell_of_row wy _ 1 _ _ _ HYB.out]; rfl
        have y2 : wy.cell? ⟨wr.heap.size, 2, none⟩ = some (.slice A6 n6 c6) := by rw [cell_of_row wy _ 2 _ _ _ HYB.out]; rfl
        have hrow := hr2.row
        have hVH : ∀ k, V.ownBlock = some k → G + 1 ≤ k := own_ge hrow
        have HVH := Lib.hid hVH
        have HRow := Lib.hid hrow
        have hyz := HY.out.size
        have hc := HIh.out E[E'.length] (List.getElem_mem _) wy.drew ((bel_trans (bel_trans HB.out HWR.out) HY.out).drew) (by omega)
        rw [f0, f1, f2] at hc
        have HC := Lib.hid hc
        have hn1 : E'.length ≤ 1099511627776 := by omega
        have hwyG : G < wy.heap.size := World.block_lt_of_cell? wy _ hcV
        clear hr2 hrow hVH hc f0 f1 f2 hwx hwl
        go_region_law (first
          | (refine step_ap itemsT (by rfl) (by rfl) (by rfl) (own_below HRow2.out ((Below.refl _ _).alloc (Nat.le_refl _) _)) (by rfl) (Src.block (m := 1) (heap_alloc_new _ _) (by rfl)) hrd.cells (by simp only [maxLen]; omega) (by omega) (by simp; omega) ?_; intro v9 w9 hap; obtain ⟨g9, c9, rfl, hc9, hm9, hb9, hlt9⟩ := own_form hap.1 (by omega); obtain ⟨k9, z9⟩ := hold_ap hap (fun k hk => by have := HVH.out k hk; simp only; omega) (hold_chg ((Chg.refl (fun _ => False) w2).alloc _) HK.out (fun h => h)))
          | (go_simp; go_at_call 26; refine (HC.out.mono ?_); rintro en w2 ⟨v0, v1, v2, sv, rfl, hrd, hos, hgd, hbd⟩; obtain ⟨l', A1, n1, cc1, A2, n2, cc2, rfl, rfl, rfl⟩ := hrd.form; have HBD := Lib.hid (bel_undrewN (n := 1) hbd); have HRow2 := Lib.hid (own_below HRow.out HBD.out); have HK := Lib.hid (hold_chg (Below.chg (fun _ => False) HBD.out) ⟨hcV, hfV⟩ (fun h => h)); have hcV2 := HK.out.1; have hcV3 : ∀ o, (w2.alloc o).cell? ⟨G, 2, none⟩ = some V := (fun o => (hold_chg ((Chg.refl (fun _ => False) w2).alloc o) HK.out (fun h => h)).1); have y03 : ∀ o, (w2.alloc o).cell? ⟨wr.heap.size, 0, none⟩ = some (.bool l2) := (fun o => chg_cell ((Below.chg (fun _ => False) HBD.out).alloc o) y0 (fun h => h)); have hb2 : wy.heap.size ≤ w2.heap.size := HBD.out.size))
        all_goals go_wp2_with fail
        all_goals
          have hL := BoxRel.round local_marked (by decide) HRel2.out HBD.out hrd hos hgd hap
          exact ⟨⟨E'.length + 1, by omega, by go_num, _, _, hL, by rw [List.map_append]; exact HMap.out, by simp⟩, by simp [intOf]; omega⟩
      · have hEE : E'.map (·.x) = E.map (·.x) := by rw [hmap, List.take_of_length_le (by simp; omega)]
        have h1i : ¬ (E'.length : Int) < (E.length : Int) := by omega
        have hGw : w4.heap.size ≤ wG.heap.size := HGl.out.size
        have hR := (HB4.out.block (w'.heap.size + 1) (by have := HS2.out; omega)).trans HI1.out
        have hR2 := (HGl.out.block (w'.heap.size + 1) (by have := HS2.out; omega)).trans hR
        have hR3 := (hrel.chg.block (w'.heap.size + 1) (by have := HS2.out; omega) (by have := HS2.out; omega)).trans hR2
        obtain ⟨AV, cV, rfl, -⟩ := Src.own hrel.row
        have g0 : wr.cell? ⟨G, 0, none⟩ = some (.bool l) := cell_of_row wr G 0 _ _ _ hrel.blk
        have g1 : wr.cell? ⟨G, 1, none⟩ = some (.slice (some ⟨g4, 0, none⟩) bs.length c4) := cell_of_row wr G 1 _ _ _ hrel.blk
        have g2 : wr.cell? ⟨G, 2, none⟩ = some (.slice AV E'.length cV) := cell_of_row wr G 2 _ _ _ hrel.blk
        have r0 : wr.cell? ⟨w'.heap.size + 1, 0, none⟩ = some (.bool false) := cell_of_row wr (w'.heap.size + 1) 0 _ _ _ hR3
        have r1 : wr.cell? ⟨w'.heap.size + 1, 1, none⟩ = some (.slice none 0 0) := cell_of_row wr (w'.heap.size + 1) 1 _ _ _ hR3
        have r2 : wr.cell? ⟨w'.heap.size + 1, 2, none⟩ = some (.slice none 0 0) := cell_of_row wr (w'.heap.size + 1) 2 _ _ _ hR3
        have z0 := frozen_of_row wr (w'.heap.size + 1) 0 _ _ hR3
        have z1 := frozen_of_row wr (w'.heap.size + 1) 1 _ _ hR3
        have z2 := frozen_of_row wr (w'.heap.size + 1) 2 _ _ hR3
        have HRel := Lib.hid hrel
        have HWR := Lib.hid hwr
        have HEE := Lib.hid hEE
        have hRG : w'.heap.size + 1 < G := by have := HS2.out; omega
        clear hrel hwr hmap hEE hR hR2 hR3
        go_wp2
        refine bodyPost_ret (v := .agg #[.bool l, .slice (some ⟨g4, 0, none⟩) bs.length c4, .slice AV E'.length cV]) (by simp [results, Try.results26, go_sem, r0, r1, r2]) rfl ?_
        have hown : OwnB w4 wb.heap.size (.slice (some ⟨g4, 0, none⟩) bs.length c4) bs := OwnB.of (own_shorter HAp.out.1 (m := bs.length) (by omega)) (by simp)
        have hmark : Marked w4 (.slice (some ⟨g4, 0, none⟩) bs.length c4) := by
          refine ⟨g4, bs.length, c4, rfl, by omega, ?_⟩
          obtain ⟨A', c', e, -, hn⟩ := Src.own HAp.out.1
          injection e with e1 e2 e3
          subst e1
          obtain ⟨ad, e, hc⟩ := hn bs.length (.int .u8 90) (by simp)
          cases e
          rw [addr_add, Nat.zero_add] at hc
          exact hc
        rw [← HEE.out]
        obtain ⟨u0, u1, u2, sv', e, hh⟩ := law_item_out (R := w'.heap.size + 1) (base := wb.heap.size) HWG.out HRel.out (by have := HS2.out; omega) (hown.below HGl.out) (fun h => by simp [Value.ownBlock] at h; omega) (local_marked _ _ _ (fun k hk => by simp [Value.ownBlock] at hk; subst hk; exact HGl.out.block g4 (by omega)) hmark) (by omega) (set3 wr (w'.heap.size + 1) (.bool l) (.slice (some ⟨g4, 0, none⟩) bs.length c4) (.slice AV E'.length cV)) local_marked (by omega)
        exact ⟨u0, u1, u2, e, sv', hh⟩
end Go.Proofs.Ytdhkhdeblkbojaa
