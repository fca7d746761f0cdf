/- MediaHonest: its walk. -/
import Derived.Test.YtcbglojjbgenlaaHnM
import Derived.Test.YtcbglojjbgenlaaHonZL
import Derived.Test.YtcbglojjbgenlaaHonLall
namespace Go.Proofs.Ytcbglojjbgenlaa
open Go.RowKit Go.MapL Go.ChangeMaps Go.MapKept
set_option linter.unusedSimpArgs false
set_option linter.unusedVariables false
attribute [local go_sem] size_gr cell_gr frozen_gr setCell_gr gr_drew gr_drewN lt_k lt_kc le_k le_kc sub_kc nil29 nil28 nil49 mkmap size_setBlock cell_setB
attribute [local go_sem ↓] Go.wp_at_zero Go.wp_at_succ

/-- the loop's state -/
def HLoop (w0 w : World) (D P : Nat) (i : Nat) : Prop := ∃ F s keys datas, LInv w0 w D F P s keys datas (i + 1)
set_option maxHeartbeats 4000000 in
set_option maxRecDepth 8000 in
theorem honest_law (w : World) (s r : Int) (ops : List Opv) (sA : Option Addr) (sc : Nat) (h : OpsAt w sA ops) (hd : ∀ o ∈ ops, o.data.length ≤ 1048576) (hcap : ops.length ≤ sc) (mid : Int) :
    Calls Try.prog 4 #[.int .i64 s, .int .i64 r, .slice sA ops.length sc, .int .i64 mid] w fun e w' => e = .returned (.bool true) ∧ Below w.heap.size w w' := by
  have HO := Lib.hid h
  have HD := Lib.hid hd
  clear h hd
  go_enter Try.func4, Try.ntmps4
  go_upto_region 6 with (first
    | (go_at_call 24; refine (limits_any s r _).mono ?_; rintro en w1 ⟨⟨s1, r1, rfl, hs1, hr1⟩, hb1⟩; obtain ⟨D1, rfl⟩ := gr_of_below hb1; have HS1 := Lib.hid hs1; have HR1 := Lib.hid hr1; clear hb1 hs1 hr1)
    | (go_at_call 6; refine (new_p s1 r1 _ (by have := HS1.out; have := HR1.out; omega)).mono ?_; rintro en w2 ⟨⟨D0, F0, rfl, hF0, hP0⟩, hb2⟩; have HF0 := Lib.hid hF0; have HP0 := Lib.hid hP0; have HB2 := Lib.hid hb2; clear hF0 hP0 hb2)
    | (go_at_call 23; refine (fixed_true _).mono ?_; rintro en w3 ⟨rfl, hb3⟩; obtain ⟨D3, rfl⟩ := gr_of_below hb3; clear hb3))
  refine with_world (fun W1 hW1 => ?_)
  have hL : ∃ P, P = w2.heap.size + D3.k ∧ LInv w W1 D0 F0 P (hn0 s1 r1) [] [] 0 := by
    refine ⟨_, rfl, linv_new (w := w2) ((below_gr w D1).trans (HB2.out.mono (by rw [size_gr]; omega))) HP0.out (fun k hk => by have := HF0.out k hk; simp [size_gr] at this; omega) HS1.out HR1.out ?_ _ (by omega) ?_⟩
    · rw [hW1]; (repeat (first | exact Below.refl _ _ | refine bg_al ?_ | refine bg_gr ?_ | refine bg_drn ?_ | refine bg_dr ?_ | assumption))
    · rw [hW1]
      have h1 := heap_alloc_last (w2.gr D3) (Obj.cells (plC s1 r1 (.slice none 0 0) (.slice none 0 0) (.slice none 0 0) 0 zero32).toArray 62 (0, 0))
      rw [size_gr] at h1
      exact h1
  obtain ⟨P, hP, hL⟩ := hL
  rw [← hP]
  have HL := Lib.hid hL
  have HCAP := Lib.hid hcap
  have hcap2 : (ops.length : Int) ≤ sc := by omega
  clear hL hP hW1 hcap
  go_wp2_with fail
  go_loopw [9, 10, 12] (fun d en i wr => ∃ (m : Nat) (D : Nat), m ≤ ops.length ∧ m ≤ 150 ∧ d = .pointer (some ⟨D, 0, none⟩) ∧ en = .int .i64 0 ∧ i = .int .i64 m ∧ HLoop w wr D P m) (fun _ _ i _ => ops.length - (intOf i).toNat)
  case atStart => exact ⟨0, D0, by omega, by omega, rfl, rfl, rfl, F0, _, _, _, HL.out.moreN (Nat.zero_le _)⟩
  case round =>
    obtain ⟨m, D, hm, hm2, rfl, rfl, rfl, F, s2, keys, datas, hI⟩ := hrel
    have HI := Lib.hid hI
    clear hI
    by_cases h1 : m < ops.length
    · by_cases h2 : m < 150
      · have h1' : (m : Int) < (ops.length : Int) := by omega
        have h2' : (m : Int) < 150 := by omega
        have HM := Lib.hid h1
        have HM2 := Lib.hid h2
        by_cases hmid : (m : Int) = mid
        · subst hmid
          have hmd : decide ((m : Int) = (m : Int)) = true := by simp
          have hme : ((m : Int) == (m : Int)) = true := by simp
          go_upto_region 13 with (first
            | (go_at_call 22; refine (media_p (HI.out.below (by (repeat (first | exact Below.refl _ _ | refine bg_al ?_ | refine bg_gr ?_ | refine bg_drn ?_ | refine bg_dr ?_ | assumption)))).dev HI.out.kd (by have := HI.out.bd.keys; have := HI.out.bd.slots; omega) (by have := HI.out.bd.log; have := HI.out.bd.room; omega)).mono ?_; rintro en w4 ⟨⟨x, rfl, hx⟩, hb4⟩; obtain ⟨cs, rfl⟩ := hx.agg; have HX := Lib.hid hx; have HB4 := Lib.hid hb4; clear hx hb4)
            | (go_at_call 25; refine (load_p HX.out (by (repeat (first | exact Below.refl _ _ | refine bg_al ?_ | refine bg_gr ?_ | refine bg_drn ?_ | refine bg_dr ?_ | assumption))) (by have := HI.out.bd.slots; have := HI.out.bd.room; omega) (by have := HI.out.kd.n; have := HI.out.bd.keys; omega) (by have := HI.out.bd.log; omega) HI.out.bd.cnt).mono ?_; rintro en w5 ⟨D5, F5, rfl, hb5, hF5, hP5⟩; have HB5 := Lib.hid hb5; have HF5 := Lib.hid hF5; have HP5 := Lib.hid hP5; clear hb5 hF5 hP5))
          refine with_world (fun W5 hW5 => ?_)
          have hb45 : Below wr.heap.size wr w5 := by exact HB4.out.trans (HB5.out.mono HB4.out.size)
          have hI5 := HI.out.reload hb45 HP5.out (fun k hk => by have := HF5.out k hk; have := HB4.out.size; simp at *; omega)
          have HI5 := Lib.hid ((hI5.below (show Below w5.heap.size w5 W5 by rw [hW5]; (repeat (first | exact Below.refl _ _ | refine bg_al ?_ | refine bg_gr ?_ | refine bg_drn ?_ | refine bg_dr ?_ | assumption)))).moreN (Nat.le_add_left 1 m))
          clear hb45 hI5 hW5
          obtain ⟨b, off, rfl, hr⟩ := HO.out.1 m HM.out
          obtain ⟨om, hmem, hr⟩ : ∃ om, om ∈ ops ∧ w.rangeAt b (off + m * 69) (opC om) := ⟨_, List.getElem_mem HM.out, hr⟩
          have HR := Lib.hid (range_bel hr HI5.out.bel)
          have HSB := Lib.hid (HO.out.2 om hmem)
          have HSM := Lib.hid (HD.out om hmem)
          have hi0 : (0 : Int) ≤ (m : Int) := by omega
          clear hr hmem hmd hme
          go_wp2_with (first
            | (refine wpList_load_mid rfl 66 _ rfl _ _ (by rfl) (opC om) _ HR.out Try.underlying66 rfl (by rw [opC_len]; kernel_rfl) ?_)
            | (go_at_call 26; refine (does_any HI5.out (by have := HM2.out; omega) om HSB.out HSM.out).mono ?_; rintro en w6 ⟨rfl, F6, s6, keys6, datas6, hI6⟩; have HI6 := Lib.hid hI6; clear hI6)
            | (go_at_call 19; refine (down_p HI6.out.dev).mono ?_; rintro en w7 ⟨rfl, rfl⟩))
          exact ⟨⟨m + 1, _, by omega, by omega, rfl, rfl, by go_num, F6, s6, keys6, datas6, HI6.out⟩, by simp [intOf]; omega⟩
        · have hmd : decide ((m : Int) = mid) = false := by simpa using hmid
          have hme : ((m : Int) == mid) = false := by simpa using hmid
          go_upto_region 13 with fail
          refine with_world (fun W5 hW5 => ?_)
          have HI5 := Lib.hid (HI.out.below (show Below wr.heap.size wr W5 by rw [hW5]; (repeat (first | exact Below.refl _ _ | refine bg_al ?_ | refine bg_gr ?_ | refine bg_drn ?_ | refine bg_dr ?_ | assumption))))
          clear hW5
          obtain ⟨b, off, rfl, hr⟩ := HO.out.1 m HM.out
          obtain ⟨om, hmem, hr⟩ : ∃ om, om ∈ ops ∧ w.rangeAt b (off + m * 69) (opC om) := ⟨_, List.getElem_mem HM.out, hr⟩
          have HR := Lib.hid (range_bel hr HI5.out.bel)
          have HSB := Lib.hid (HO.out.2 om hmem)
          have HSM := Lib.hid (HD.out om hmem)
          have hi0 : (0 : Int) ≤ (m : Int) := by omega
          clear hr hmem hmid hmd hme
          go_wp2_with (first
            | (refine wpList_load_mid rfl 66 _ rfl _ _ (by rfl) (opC om) _ HR.out Try.underlying66 rfl (by rw [opC_len]; kernel_rfl) ?_)
            | (go_at_call 26; refine (does_any HI5.out (by have := HM2.out; omega) om HSB.out HSM.out).mono ?_; rintro en w6 ⟨rfl, F6, s6, keys6, datas6, hI6⟩; have HI6 := Lib.hid hI6; clear hI6)
            | (go_at_call 19; refine (down_p HI6.out.dev).mono ?_; rintro en w7 ⟨rfl, rfl⟩))
          exact ⟨⟨m + 1, _, by omega, by omega, rfl, rfl, by go_num, F6, s6, keys6, datas6, HI6.out⟩, by simp [intOf]; omega⟩
      · have h1' : (m : Int) < (ops.length : Int) := by omega
        have h2' : ¬ (m : Int) < 150 := by omega
        go_wp2_with fail
        go_ret
        exact ⟨rfl, by have := HI.out.bel; (repeat (first | exact Below.refl _ _ | refine bg_al ?_ | refine bg_gr ?_ | refine bg_drn ?_ | refine bg_dr ?_ | assumption))⟩
    · have h1' : ¬ (m : Int) < (ops.length : Int) := by omega
      go_wp2_with fail
      go_ret
      exact ⟨rfl, by have := HI.out.bel; (repeat (first | exact Below.refl _ _ | refine bg_al ?_ | refine bg_gr ?_ | refine bg_drn ?_ | refine bg_dr ?_ | assumption))⟩
end Go.Proofs.Ytcbglojjbgenlaa
