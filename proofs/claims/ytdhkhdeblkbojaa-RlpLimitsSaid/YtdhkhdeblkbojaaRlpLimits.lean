/- The walk of cairnlaw05.RlpLimits. -/
import Derived.Test.YtdhkhdeblkbojaaGrowRlp
import Derived.Test.YtdhkhdeblkbojaaRlpLimLaw
set_option linter.unusedSimpArgs false
namespace Go.Proofs.Ytdhkhdeblkbojaa
open Go.RowKit
attribute [local go_sem ↓] Go.wp_at_zero Go.wp_at_succ
attribute [local go_sem] size_gr cell_gr frozen_gr setCell_gr gr_drew gr_drewN lt_k lt_kc le_k le_kc sub_kc

theorem chain_in {W : World} {g k : Nat} {v0 v1 v2 : Value} {sv : List Value} {fr : Nat × Nat} (h : W.heap[g]? = some (.cells #[v0, v1, v2] 46 fr)) (hr : RdI W (fun _ => True) v0 v1 v2 (chain k) sv) :
    RdI W (fun _ => True) (.bool true) (.slice none 0 0) (.slice (some ⟨g, 0, none⟩) 1 1) (chain (k + 1)) ((.slice none 0 0) :: (sv ++ [])) :=
  RdI.mk true (.slice none 0 0) [] (some ⟨g, 0, none⟩) 1 [⟨v0, v1, v2, chain k, sv⟩] (SB.nil W) (fun _ _ _ e => by cases e) (Nat.le_refl _) (by simp [maxLen]) (fun e => by cases e) (fun _ _ => trivial) (Src.block (m := 1) h rfl) (fun e he => by simp only [List.mem_singleton] at he; subst he; exact hr)

set_option maxRecDepth 100000 in
set_option maxHeartbeats 4000000 in
theorem limits_walk (w : World) : Calls Try.prog 7 #[] w fun e w' => e = .returned (.bool true) ∧ Below w.heap.size w w' := by
  go_enter Try.func7, Try.ntmps7
  go_wp2_with fail
  go_loopw [2] (fun v wr => ∃ (k : Nat) (A : Option Addr) (n c : Nat) (D : Dl) (sv : List Value), k ≤ 79 ∧ v = .int .i64 ((k : Int) + 1) ∧ wr = (w.alloc (.cells #[.bool true, .slice none 0 0, .slice A n c] 46)).gr D ∧ ∀ W, At (w.heap.size + 1) D W → RdI W (fun _ => True) (.bool true) (.slice none 0 0) (.slice A n c) (chain k) sv) (fun v _ => 80 - (intOf v).toNat)
  case atStart => exact ⟨0, none, 0, 0, Dl.nil _, _, by omega, rfl, (gr_nil _).symm, fun W _ => RdI.leaf true (SB.nil W) (fun _ _ _ _ => trivial)⟩
  case round =>
    obtain ⟨k, A, n, c, D, sv, hk, rfl, rfl, hr⟩ := hrel
    have HR := Lib.hid hr
    clear hr
    by_cases hlt : k < 79
    · have hlt' : (k : Int) + 1 < 80 := by omega
      go_wp2_with fail
      exact ⟨⟨k + 1, _, _, _, D.al _, _, by omega, by go_num, gr_al _ _ _, fun W h => chain_in (at_pre h).2 (HR.out W (at_pre h).1)⟩, by simp [intOf]; omega⟩
    · have hlt' : ¬ (k : Int) + 1 < 80 := by omega
      obtain rfl : k = 79 := by omega
      go_wp2_with fail
      refine (encode_eq enc_chain (HR.out _ (by (repeat (first | (refine at_base ?_; simp only [World.size_alloc, size_gr, World.size_setCell, World.size_drew]; done) | (refine at_base ?_; rfl) | refine at_al ?_ | refine at_gr ?_ | refine at_drn ?_ | refine at_dr ?_ | assumption)))) (by rw [chain_wt]; omega)).mono ?_
      rintro en w1 ⟨v1, rfl, ho, hb⟩; obtain ⟨D1, rfl⟩ := gr_of_below hb; clear hb
      have HO := Lib.hid (ownB_at ho)
      obtain ⟨A1, c1, rfl, -⟩ := ho.form
      clear ho
      have hlen := chain_len 79 (by omega)
      go_wp2_with fail
      refine (decode_ok (dec_enc (by rw [chain_wt]; omega) enc_chain).1 (HO.out _ (by (repeat (first | (refine at_base ?_; simp only [World.size_alloc, size_gr, World.size_setCell, World.size_drew]; done) | (refine at_base ?_; rfl) | refine at_al ?_ | refine at_gr ?_ | refine at_drn ?_ | refine at_dr ?_ | assumption)))).sb (by omega)).mono ?_
      rintro en w1 ⟨y0, y1, y2, sv1, rfl, hy, -, hb⟩; obtain ⟨D2, rfl⟩ := gr_of_below hb; clear hb
      obtain ⟨l3, A3, n3, c3, A4, n4, c4, rfl, rfl, rfl⟩ := hy.form
      have HY := Lib.hid (rdI_at hy); clear hy
      go_wp2_with fail
      refine (encode_eq enc_deep (chain_in (heap_new (by simp only [World.size_alloc, size_gr, World.size_setCell, World.size_drew])) (HR.out _ (by (repeat (first | (refine at_base ?_; simp only [World.size_alloc, size_gr, World.size_setCell, World.size_drew]; done) | (refine at_base ?_; rfl) | refine at_al ?_ | refine at_gr ?_ | refine at_drn ?_ | refine at_dr ?_ | assumption))))) (by rw [chain_wt]; omega)).mono ?_
      rintro en w1 ⟨v2, rfl, ho, hb⟩; obtain ⟨D3, rfl⟩ := gr_of_below hb; clear hb
      obtain ⟨A5, c5, rfl, -⟩ := ho.form
      clear ho
      go_wp2_with fail
      refine with_world (fun W0 hW0 => ?_); have hz0 := congrArg (fun W => W.heap.size) hW0; have hc0 := fun (b o : Nat) => congrArg (fun W => World.cell? W ⟨b, o, none⟩) hW0; (try simp only [World.size_alloc, size_gr, World.size_drew] at hz0); (try dsimp only at hc0); have HW0 := Lib.hid hW0; clear hW0; go_region_held3 (fun W => ∀ (b o : Nat), b < W0.heap.size → W.cell? ⟨b, o, none⟩ = W0.cell? ⟨b, o, none⟩) (exact cellB (by (repeat (first | exact Below.refl _ _ | refine bg_al ?_ | refine bg_gr ?_ | refine bg_drn ?_ | refine bg_dr ?_ | assumption))))
        (first
          | (go_at_call 28; refine (items_same (hitA.kept (below_gr _ D5)) _ (fun _ => True) _ _ _ (chain 79) svB (Below.refl _ _) (hitB.mono (fun _ _ => trivial))).mono ?_; rintro en w8 ⟨rfl, hb8⟩; have hsm : sameI (chain 79) (chain 79) = true := sameI_eq.2 rfl; rw [hsm]; obtain ⟨D6, rfl⟩ := gr_of_below hb8; clear hb8)
          | (go_at_call 29; have _t := hitA; refine (back_any (w := W0) (T := fun _ => True) (x := chain 79) (HR.out _ (by rw [HW0.out]; (repeat (first | (refine at_base ?_; simp only [World.size_alloc, size_gr, World.size_setCell, World.size_drew]; done) | (refine at_base ?_; rfl) | refine at_al ?_ | refine at_gr ?_ | refine at_drn ?_ | refine at_dr ?_ | assumption)))) _ (by (repeat (first | exact Below.refl _ _ | refine bg_al ?_ | refine bg_gr ?_ | refine bg_drn ?_ | refine bg_dr ?_ | assumption))) (by rw [chain_wt]; omega)).mono ?_; rintro en w7 ⟨q0, q1, q2, svB, rfl, hitB, -, hb7⟩; obtain ⟨D5, rfl⟩ := gr_of_below hb7; obtain ⟨l8, A9, n9, c9, A10, n10, c10, rfl, rfl, rfl⟩ := hitB.form; clear hb7)
          | (go_at_call 29; refine (back_any (w := W0) (T := fun _ => True) (x := chain 79) ((HY.out _ (by rw [HW0.out]; (repeat (first | (refine at_base ?_; simp only [World.size_alloc, size_gr, World.size_setCell, World.size_drew]; done) | (refine at_base ?_; rfl) | refine at_al ?_ | refine at_gr ?_ | refine at_drn ?_ | refine at_dr ?_ | assumption)))).mono (fun _ _ => trivial)) _ (by (repeat (first | exact Below.refl _ _ | refine bg_al ?_ | refine bg_gr ?_ | refine bg_drn ?_ | refine bg_dr ?_ | assumption))) (by rw [chain_wt]; omega)).mono ?_; rintro en w7 ⟨q0, q1, q2, svA, rfl, hitA, -, hb7⟩; obtain ⟨D4, rfl⟩ := gr_of_below hb7; obtain ⟨l7, A7, n7, c7, A8, n8, c8, rfl, rfl, rfl⟩ := hitA.form; clear hb7))
      (have hW0 := HW0.out; clear HW0 hz0 hc0; (try clear hHeld); subst hW0)
      clear hitA hitB hlen
      go_wp2_with fail
      go_loopw [10, 11] (fun v10 v11 wr => ∃ (k : Nat) (A : Option Addr) (c : Nat), k ≤ 80 ∧ v11 = .int .i64 k ∧ v10 = .slice A (deepB k).length c ∧ SB wr (.slice A (deepB k).length c) (deepB k) ∧ Below w.heap.size w wr) (fun _ v _ => 80 - (intOf v).toNat)
      case atStart => exact ⟨0, _, _, by omega, rfl, rfl, sb_lit (by simp only [World.size_alloc, size_gr, World.size_setCell, World.size_drew]) rfl rfl (by simp [deepB]), by (repeat (first | exact Below.refl _ _ | refine bg_al ?_ | refine bg_gr ?_ | refine bg_drn ?_ | refine bg_dr ?_ | assumption))⟩
      case round =>
        obtain ⟨k, A, c, hk, rfl, rfl, hs, hb⟩ := hrel
        have HS := Lib.hid hs
        obtain ⟨DR, rfl⟩ := gr_of_below hb
        obtain ⟨hl1, hl2⟩ := deepB_len k
        clear hs hb
        by_cases hlt : k < 80
        · have hlt' : (k : Int) < 80 := by omega
          by_cases h56 : 56 ≤ (deepB k).length
          · have h56' : 56 ≤ ((deepB k).length : Int) := by omega
            go_wp2_with (at_builtin; (refine ap_new [248, UInt8.ofNat (deepB k).length] (deepB k) (deepB (k + 1)) (deepB (k + 1)).length (by rw [deepB, if_pos h56]) rfl rfl rfl rfl rfl (by rfl) (by simp only [World.size_alloc, size_gr, World.size_setCell, World.size_drew]) (by simp [bv]; omega) rfl rfl (by rfl) (HS.out.below (by (repeat (first | exact Below.refl _ _ | refine bg_al ?_ | refine bg_gr ?_ | refine bg_drn ?_ | refine bg_dr ?_ | assumption)))) (by simp; omega) ?_; intro D7 A7 c7 ho7 hc7 hm7))
            exact ⟨⟨k + 1, _, _, by omega, by go_num, rfl, (ho7 _ (by (repeat (first | (refine at_base ?_; simp only [World.size_alloc, size_gr, World.size_setCell, World.size_drew]; done) | (refine at_base ?_; rfl) | refine at_al ?_ | refine at_gr ?_ | refine at_drn ?_ | refine at_dr ?_ | assumption)))).sb, by (repeat (first | exact Below.refl _ _ | refine bg_al ?_ | refine bg_gr ?_ | refine bg_drn ?_ | refine bg_dr ?_ | assumption))⟩, by simp [intOf]; omega⟩
          · have h56' : ¬ 56 ≤ ((deepB k).length : Int) := by omega
            go_wp2_with (at_builtin; (refine ap_new [UInt8.ofNat (192 + (deepB k).length)] (deepB k) (deepB (k + 1)) (deepB (k + 1)).length (by rw [deepB, if_neg h56]) rfl rfl rfl rfl rfl (by rfl) (by simp only [World.size_alloc, size_gr, World.size_setCell, World.size_drew]) (by simp [bv]; omega) rfl rfl (by rfl) (HS.out.below (by (repeat (first | exact Below.refl _ _ | refine bg_al ?_ | refine bg_gr ?_ | refine bg_drn ?_ | refine bg_dr ?_ | assumption)))) (by simp; omega) ?_; intro D7 A7 c7 ho7 hc7 hm7))
            exact ⟨⟨k + 1, _, _, by omega, by go_num, rfl, (ho7 _ (by (repeat (first | (refine at_base ?_; simp only [World.size_alloc, size_gr, World.size_setCell, World.size_drew]; done) | (refine at_base ?_; rfl) | refine at_al ?_ | refine at_gr ?_ | refine at_drn ?_ | refine at_dr ?_ | assumption)))).sb, by (repeat (first | exact Below.refl _ _ | refine bg_al ?_ | refine bg_gr ?_ | refine bg_drn ?_ | refine bg_dr ?_ | assumption))⟩, by simp [intOf]; omega⟩
        · have hlt' : ¬ (k : Int) < 80 := by omega
          obtain rfl : k = 80 := by omega
          have hs := HS.out
          rw [len_deepB] at hs
          have HS' := Lib.hid hs
          have hmk : ∀ w, (Instr.makeSlice 22 (.int .i64 1048572) (.int .i64 1048572)).run Try.prog w = .ok (.slice (some ⟨w.heap.size, 0, none⟩) 1048572 1048572) (w.alloc (zObj 1048572)) := make_z 1048572 (by omega)
          have hmk2 : ∀ w, (Instr.makeSlice 22 (.int .i64 1048573) (.int .i64 1048573)).run Try.prog w = .ok (.slice (some ⟨w.heap.size, 0, none⟩) 1048573 1048573) (w.alloc (zObj 1048573)) := make_z 1048573 (by omega)
          obtain ⟨hE, hEl⟩ := enc_most rfl
          generalize hfc : headB 1048572 128 ++ zeros 1048572 = fc at hE hEl
          have HE := Lib.hid hE
          have hwm : wtI (.mk false (zeros 1048572) []) ≤ 1099511627776 := by rw [wtI, wtL, zeros_len]; omega
          have HD := Lib.hid (dec_enc hwm hE).1
          have hlen := len_deepB
          rw [hlen] at hl1
          clear hs hE hfc
          go_wp2_with fail
          refine (decode_bad dec_deepB (by rw [show (deepB 80).length = 106 from hlen] at *; exact HS'.out) (by rw [hlen]; omega)).mono ?_
          rintro en w1 ⟨rfl, hb⟩; obtain ⟨D7, rfl⟩ := gr_of_below hb; clear hb
          go_wp2_with fail
          refine (encode_eq HE.out (RdI.leaf (T := fun _ => True) false (own_z _ _ (by omega) (by simp only [World.size_alloc, size_gr, World.size_setCell, World.size_drew])).sb (fun _ _ _ _ => trivial)) hwm).mono ?_
          rintro en w1 ⟨v1, rfl, ho, hb⟩; obtain ⟨D8, rfl⟩ := gr_of_below hb; clear hb
          obtain ⟨A8, c8, rfl, -⟩ := ho.form
          have HO8 := Lib.hid (ownB_at ho)
          have hlt8 : ∀ g, (Value.slice A8 fc.length c8).ownBlock = some g → g < w.heap.size + DR.k + D7.k + 1 + 1 + D8.k := fun g hg => by have := (ho.lt g hg).2; simpa only [World.size_alloc, size_gr] using this
          have HLT := Lib.hid hlt8
          clear ho hlt8
          go_wp2_with fail
          refine (encode_eq (enc_more rfl) (RdI.leaf (T := fun _ => True) false (own_z _ _ (by omega) (by simp only [World.size_alloc, size_gr, World.size_setCell, World.size_drew])).sb (fun _ _ _ _ => trivial)) (by rw [wtI, wtL, zeros_len]; omega)).mono ?_
          rintro en w1 ⟨v1, rfl, ho, hb⟩; obtain ⟨D9, rfl⟩ := gr_of_below hb; clear hb
          obtain ⟨A9, c9, rfl, -⟩ := ho.form
          clear ho
          have ho8 : ∀ W, At _ D8 W → OwnB W _ (.slice A8 1048576 c8) fc := fun W h => by have := HO8.out W h; rw [hEl] at this; exact this
          have HS8 := Lib.hid ho8
          have hlt8 := HLT.out
          rw [hEl] at hlt8
          have HLT8 := Lib.hid hlt8
          clear ho8 hlt8
          go_wp2_with fail
          refine (decode_ok HD.out (HS8.out _ (by (repeat (first | (refine at_base ?_; simp only [World.size_alloc, size_gr, World.size_setCell, World.size_drew]; done) | (refine at_base ?_; rfl) | refine at_al ?_ | refine at_gr ?_ | refine at_drn ?_ | refine at_dr ?_ | assumption)))).sb (by omega)).mono ?_
          rintro en w1 ⟨y0, y1, y2, sv1, rfl, hy, -, hb⟩; obtain ⟨D10, rfl⟩ := gr_of_below hb; clear hb
          have hyf := hy.flag
          obtain ⟨A3, c3, hyb, -⟩ := hy.sb
          obtain ⟨-, -, -, -, A4, n4, c4, -, -, rfl⟩ := hy.form
          rw [show (It.mk false (zeros 1048572) []).b.length = 1048572 from zeros_len _] at hyb
          subst hyf hyb
          clear hy
          go_wp2_with (at_builtin; (refine ap_any (W0 := w) fc [0] (fc ++ [0]) 1048577 rfl (by rw [List.length_append, hEl]; rfl) rfl rfl rfl (by rfl) (HS8.out _ (by (repeat (first | (refine at_base ?_; simp only [World.size_alloc, size_gr, World.size_setCell, World.size_drew]; done) | (refine at_base ?_; rfl) | refine at_al ?_ | refine at_gr ?_ | refine at_drn ?_ | refine at_dr ?_ | assumption)))) (by rfl) (sb_lit (by simp only [World.size_alloc, size_gr, World.size_setCell, World.size_drew]) rfl rfl (by decide)) (by simp; omega) (by simp only [World.size_alloc, size_gr]; omega) (by (repeat (first | exact Below.refl _ _ | refine bg_al ?_ | refine bg_gr ?_ | refine bg_drn ?_ | refine bg_dr ?_ | assumption))) (by simp only [World.size_alloc, size_gr]; omega) ?_; intro w8 A10 c10 ho10 hb10 hc10; have hz := hc10 (w.heap.size + DR.k + D7.k + 1 + 1 + D8.k + 1 + D9.k + D10.k) 1 (.slice A3 1048572 c3) (by go_simp) (fun h => by have := HLT8.out _ h; omega); have HO10 := Lib.hid ho10; have HB10 := Lib.hid hb10; clear ho10 hb10 hc10))
          refine (decode_bad (dec_big (by rw [List.length_append, hEl]; decide)) HO10.out.sb (by rw [List.length_append, hEl]; decide)).mono ?_
          rintro en w9 ⟨rfl, hb⟩
          have hz2 := cell_later hb hz
          have HB9 := Lib.hid (bel_trans HB10.out hb)
          clear hb hz
          go_wp2_with fail
          go_ret
          exact ⟨rfl, by first | exact HB9.out | exact bel_drewN HB9.out _⟩
end Go.Proofs.Ytdhkhdeblkbojaa
