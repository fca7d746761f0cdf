/- An honest access: Append. -/
import Derived.Test.YtcbglojjbgenlaaMedI
import Derived.Test.YtcbglojjbgenlaaMedJ
namespace Go.Proofs.Ytcbglojjbgenlaa
open Go.RowKit Go.MapL Go.ChangeMaps Go.MapKept
set_option linter.unusedSimpArgs false
set_option linter.unusedVariables false
attribute [local go_sem] size_gr cell_gr frozen_gr setCell_gr gr_drew gr_drewN lt_k lt_kc le_k le_kc sub_kc nil29 nil28 nil49 mkmap size_setBlock cell_setB
attribute [local go_sem ↓] Go.wp_at_zero Go.wp_at_succ

theorem dev_set3 {w : World} {D : Nat} {f : Fd} (h : DevAt w D f) (v : Value) : DevAt (w.setCell ⟨D, 3, none⟩ v) D { f with log := v } := by
  unfold DevAt
  rw [setCell_row h]
  rfl

theorem lit_cell (W : World) (cs : Array Value) (t : TypeId) (i : Nat) {v : Value} (h : cs[i]? = some v) : (W.alloc (.cells cs t)).drew.cell? ⟨W.heap.size, i, none⟩ = some v := by
  show (W.alloc (.cells cs t)).cell? _ = _
  rw [cell_of_row _ _ _ _ _ _ (heap_alloc_last _ _), h]
set_option maxRecDepth 8000 in
theorem does_append (D A B nB : Nat) (f : Fd) (mB : H32 → Option Value) (q : H32) (da ks : Value) (n cnt : Int) (tag : H32) (w : World) (hD : DevAt w D f) (hA : DeedAt w A 6 q da ks n cnt tag) (hfB : f.bm = .map (some B)) (hB : MapIs HC w B mB nB)
    (ll ld : Bs) (hlog : SB w f.log ll) (hda : SB w da ld) (hroom : (ll.length : Int) + ld.length ≤ f.room) (hbig : ll.length + ld.length ≤ 1099511627776) :
    Calls Try.prog 62 #[.pointer (some ⟨D, 0, none⟩), .pointer (some ⟨A, 0, none⟩)] w fun e w' => ∃ lA lc, e = .returned (.int .i64 0) ∧ DevAt w' D { f with log := .slice lA (ll.length + ld.length) lc } ∧ OwnB w' w.heap.size (.slice lA (ll.length + ld.length) lc) (ll ++ ld) ∧ Chg (fun k => k = D) w w' := by
  have HSL := Lib.hid hlog
  have HSD := Lib.hid hda
  obtain ⟨lA, lc, hlv, -⟩ := hlog
  obtain ⟨dA, dc, rfl, -⟩ := hda
  have HR := Lib.hid (refuses_append D A B nB f mB q _ ks n cnt tag w hD hA hfB hB _ rfl _ rfl lA _ lc hlv dA _ dc rfl hbig hroom)
  rw [hlv] at HSL
  have HDq := Lib.hid hD
  obtain ⟨hc0, hc1, hc2, hc3, hc4, -⟩ := dev_c hD
  obtain ⟨ha0, ha33, ha34, ha35, ha36, hak, har⟩ := deed_c hA
  have hf3 := dev_fr hD 3
  have hDA := dev_ne_deed hD hA
  rw [hlv] at hc3
  have hDlt : D < w.heap.size := World.block_lt_of_cell? w _ hc3
  have hAlt : A < w.heap.size := World.block_lt_of_cell? w _ ha0
  have HN := Lib.hid hbig
  clear hD hA hfB hB hak har hlv hroom hbig
  go_enter Try.func62, Try.ntmps62
  go_wp2_with (go_at_call 63; refine HR.out.mono ?_; rintro en w1 ⟨rfl, n1, rfl⟩)
  refine with_world (fun W0 hW0 => ?_)
  have hB0 : Below w.heap.size w W0 := by rw [hW0]; (repeat (first | exact Below.refl _ _ | refine bg_al ?_ | refine bg_gr ?_ | refine bg_drn ?_ | refine bg_dr ?_ | assumption))
  have HB0 := Lib.hid hB0
  have z0 : D < W0.heap.size := by have := hB0.size; omega
  have y0 : A < W0.heap.size := by have := hB0.size; omega
  have k3 : W0.cell? ⟨D, 3, none⟩ = some (.slice lA ll.length lc) := by rw [hB0.cell (p := ⟨D, 3, none⟩) hDlt]; exact hc3
  have kf3 : W0.frozen? ⟨D, 3, none⟩ = false := by rw [hB0.frozen (p := ⟨D, 3, none⟩) hDlt]; exact hf3
  have k33 : W0.cell? ⟨A, 33, none⟩ = some (.slice dA ld.length dc) := by rw [hB0.cell (p := ⟨A, 33, none⟩) hAlt]; exact ha33
  clear hB0 hW0
  go_region_law (go_simp; go_at_call 76; refine (concat_two _ _ _ ll ld _ (lit_cell _ _ _ _ rfl) (lit_cell _ _ _ _ rfl) ((HSL.out.below HB0.out).below (by (repeat (first | exact Below.refl _ _ | refine bg_al ?_ | refine bg_gr ?_ | refine bg_drn ?_ | refine bg_dr ?_ | assumption)))) ((HSD.out.below HB0.out).below (by (repeat (first | exact Below.refl _ _ | refine bg_al ?_ | refine bg_gr ?_ | refine bg_drn ?_ | refine bg_dr ?_ | assumption)))) HN.out).mono ?_; rintro en w2 ⟨A2, c2, rfl, ho2, hb2⟩; obtain ⟨D2, rfl⟩ := gr_of_below hb2; clear hb2; have HO2 := Lib.hid ho2; clear ho2)
  all_goals go_wp2_with fail
  all_goals go_ret
  all_goals
    refine ⟨A2, c2, rfl, ?_, ?_, ?_⟩
    · refine dev_bel (dev_set3 (dev_bel HDq.out HB0.out) _) (by (repeat (first | exact Below.refl _ _ | refine bg_al ?_ | refine bg_gr ?_ | refine bg_drn ?_ | refine bg_dr ?_ | assumption)))
    · exact ((ownB_at HO2.out) _ (by (repeat (first | (refine at_base ?_; simp only [World.size_alloc, size_gr, World.size_setCell, World.size_drew]; done) | (refine at_base ?_; rfl) | refine at_al ?_ | refine at_gr ?_ | refine at_drn ?_ | refine at_dr ?_ | assumption)))).mono (by have := HB0.out.size; simp; omega)
    · refine (chg_set (S := fun k => k = D) (Below.chg _ HB0.out) rfl _).trans (Below.chg _ (by (repeat (first | exact Below.refl _ _ | refine bg_al ?_ | refine bg_gr ?_ | refine bg_drn ?_ | refine bg_dr ?_ | assumption))))
end Go.Proofs.Ytcbglojjbgenlaa
