/- x -/
import Derived.Test.YtcbglojjbgenlaaMedZ0
namespace Go.Proofs.Ytcbglojjbgenlaa
open Go.RowKit Go.MapL Go.ChangeMaps Go.MapKept
set_option linter.unusedSimpArgs false
set_option linter.unusedVariables false
attribute [local go_sem] size_gr cell_gr frozen_gr setCell_gr gr_drew gr_drewN lt_k lt_kc le_k le_kc sub_kc nil29 nil28 nil49 mkmap conv_const st_zmed st_zreg
attribute [local go_sem ↓] Go.wp_at_zero Go.wp_at_succ
set_option maxHeartbeats 2000000 in
set_option maxRecDepth 8000 in
theorem names_walk (w : World) : Calls Try.prog 3 #[] w fun e w' => e = .returned (.bool true) ∧ Below w.heap.size w w' := by
  have hrl := reg_len 0 zero32
  have hml := med_len 0 0 (.slice none 0 0) (.slice none 0 0) 0 zero32
  obtain ⟨Z1, hZ1⟩ : ∃ Z, Z = (choZ 4097).toArray := ⟨_, rfl⟩
  obtain ⟨Z2, hZ2⟩ : ∃ Z, Z = (choZ 4096).toArray := ⟨_, rfl⟩
  have HZ1 := Lib.hid hZ1
  have HZ2 := Lib.hid hZ2
  clear hZ1 hZ2
  have hK1 := True.intro
  go_enter Try.func3, Try.ntmps3
  go_wp2_with (first
    | (refine wl_zmed rfl rfl ?_)
    | (go_at_call 7; refine (nil_up _).mono ?_; rintro en w1 ⟨rfl, rfl⟩)
    | (go_at_call 8; rw [key0_lit]; refine (nil_get zero32 _).mono ?_; rintro en w1 ⟨A1, c1, rfl, hb⟩; obtain ⟨E1, rfl⟩ := gr_of_below hb; clear hb)
    | (go_at_call 9; refine (nil_list _).mono ?_; rintro en w1 ⟨rfl, hb⟩; obtain ⟨E2, rfl⟩ := gr_of_below hb; clear hb)
    | (go_at_call 10; refine (nil_read _).mono ?_; rintro en w1 ⟨A2, c2, rfl, hb⟩; obtain ⟨E3, rfl⟩ := gr_of_below hb; clear hb)
    | (go_at_call 11; refine (nil_reg _).mono ?_; rintro en w1 ⟨rfl, hb⟩; obtain ⟨E4, rfl⟩ := gr_of_below hb; clear hb)
    | (go_at_call 12; rw [key0_lit]; refine (nil_put zero32 _ _).mono ?_; rintro en w1 ⟨rfl, hb⟩; obtain ⟨E5, rfl⟩ := gr_of_below hb; clear hb)
    | (go_at_call 13; rw [key0_lit]; refine (nil_delete zero32 _).mono ?_; rintro en w1 ⟨rfl, hb⟩; obtain ⟨E6, rfl⟩ := gr_of_below hb; clear hb)
    | (go_at_call 14; refine (nil_append _ [] _ (SB.nil _) (by decide)).mono ?_; rintro en w1 ⟨rfl, hb⟩; obtain ⟨E7, rfl⟩ := gr_of_below hb; clear hb)
    | (go_at_call 15; refine (nil_trim _ _).mono ?_; rintro en w1 ⟨rfl, hb⟩; obtain ⟨E8, rfl⟩ := gr_of_below hb; clear hb)
    | (go_at_call 16; refine (nil_cut _ _).mono ?_; rintro en w1 ⟨rfl, hb⟩; obtain ⟨E9, rfl⟩ := gr_of_below hb; clear hb)
    | (go_at_call 17; refine (nil_setReg _ _).mono ?_; rintro en w1 ⟨rfl, hb⟩; obtain ⟨E10, rfl⟩ := gr_of_below hb; clear hb)
    | (go_at_call 18; refine (nil_choose _ _).mono ?_; rintro en w1 ⟨rfl, rfl⟩)
    | (go_at_call 19; refine (nil_down _).mono ?_; rintro en w1 ⟨rfl, rfl⟩)
    | (go_at_call 20; refine (nil_accesses _).mono ?_; rintro en w1 ⟨rfl, rfl⟩)
    | (go_at_call 22; refine (nil_media _).mono ?_; rintro en w1 ⟨rfl, hb⟩; obtain ⟨E11, rfl⟩ := gr_of_below hb; clear hb)
    | (go_at_call 21; refine (sameMedia_empty _).mono ?_; rintro en w1 ⟨rfl, hb⟩; obtain ⟨E12, rfl⟩ := gr_of_below hb; clear hb)
    | (go_at_call 23; refine (fixed_true _).mono ?_; rintro en w1 ⟨rfl, hb⟩; obtain ⟨E13, rfl⟩ := gr_of_below hb; clear hb)
    | (at_make; have _m := hK1; refine wl_makeZ 4097 Z1 HZ1.out rfl _ _ rfl rfl rfl (by decide) ?_; clear hK1; have hM1 := True.intro)
    | (at_make; refine wl_makeZ 4096 Z2 HZ2.out rfl _ _ rfl rfl rfl (by decide) ?_; have hM2 := True.intro)
    | (go_at_call 6; have _m := hM1; refine (new_bigZ Z1 HZ1.out _ _ (by simp only [World.size_alloc, size_gr, World.size_setCell, World.size_drew])).mono ?_; rintro en w1 ⟨rfl, hb1⟩; obtain ⟨D3, rfl⟩ := gr_of_below hb1; clear hb1 hM1)
    | (go_at_call 6; have _m := hM2; refine (new_fitZ Z2 HZ2.out _ _ (by simp only [World.size_alloc, size_gr, World.size_setCell, World.size_drew])).mono ?_; rintro en w1 ⟨DD, rfl, hb1⟩; obtain ⟨D4, rfl⟩ := gr_of_below hb1; clear hb1 hM2)
    | (go_at_call 6; refine (new_slots _ _ _ _ (by omega)).mono ?_; rintro en w1 ⟨rfl, rfl⟩)
    | (go_at_call 6; refine (new_one _ _ _ _ _ (by omega) (by decide) _ _ (by simp only [World.size_alloc, size_gr, World.size_setCell, World.size_drew])).mono ?_; rintro en w1 ⟨rfl, hb1⟩; obtain ⟨D1, rfl⟩ := gr_of_below hb1; clear hb1))
  go_ret
  exact ⟨rfl, by (repeat (first | exact Below.refl _ _ | refine bg_al ?_ | refine bg_gr ?_ | refine bg_drn ?_ | refine bg_dr ?_ | assumption))⟩
end Go.Proofs.Ytcbglojjbgenlaa
