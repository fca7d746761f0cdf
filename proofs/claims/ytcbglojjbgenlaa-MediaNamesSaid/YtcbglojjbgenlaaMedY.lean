/- fixed: a device keeps what is written. -/
import Derived.Test.YtcbglojjbgenlaaMedX
namespace Go.Proofs.Ytcbglojjbgenlaa
open Go.RowKit Go.MapL Go.ChangeMaps Go.MapKept
set_option linter.unusedSimpArgs false
set_option linter.unusedVariables false
attribute [local go_sem] size_gr cell_gr frozen_gr setCell_gr gr_drew gr_drewN lt_k lt_kc le_k le_kc sub_kc nil29 nil28 nil49 mkmap size_setBlock cell_setB conv_const
attribute [local go_sem ↓] Go.wp_at_zero Go.wp_at_succ

def key1 : H32 := ⟨1 :: List.replicate 31 0, by simp⟩
def bsAb : Bs := [97, 98]
def bsHello : Bs := [104, 101, 108, 108, 111]
def dA : Dv := dv0 2 10 []
noncomputable def dB : Dv := { dA with blobs := updO dA.blobs key1 (some bsAb), n := dA.n + 1, vers := updL dA.vers key1 (dA.vers key1 ++ [bsAb]), acc := dA.acc ++ [(2, 0, true)], past := dA.past ++ [⟨updO (fun _ => none) key1 (some (dA.blobs key1)), 1, dA.log⟩] }
noncomputable def dC : Dv := { dB with log := dB.log ++ bsHello, acc := dB.acc ++ [(6, 0, true)], past := dB.past ++ [⟨fun _ => none, 0, dB.log⟩] }
noncomputable def dD : Dv := { dC with acc := dC.acc ++ [(1, 0, true)] }
noncomputable def dE : Dv := { dD with acc := dD.acc ++ [(5, 0, true)] }
theorem dE_acc : dE.acc.length = 4 := rfl
theorem dC_blob : dC.blobs key1 = some bsAb := by
  show updO dA.blobs key1 (some bsAb) key1 = _
  simp [updO]

theorem new_dA (w : World) : Calls Try.prog 6 #[.int .i64 2, .int .i64 10, .slice none 0 0] w fun e w' => ∃ D F, e = .returned (.tuple #[.pointer (some ⟨D, 0, none⟩), .int .i64 0]) ∧ Below w.heap.size w w' ∧ Awake w' D F dA ∧ ∀ k, F k → w.heap.size ≤ k := by
  refine (new_ok 2 10 (.slice none 0 0) [] w (by omega) (SC.nil w 3) (by simp) rfl).mono ?_
  rintro e w' ⟨D, rfl, hb, hI⟩
  exact ⟨D, _, rfl, hb, ⟨hI, fun k hk => hk.2, rfl, ⟨by simp [dA, dv0], by simp [dA, dv0], fun q => by simp [dA, dv0]⟩, by simp [dA, dv0]⟩, fun k hk => hk.1⟩
theorem put_dB {w : World} {D : Nat} {F : Nat → Prop} (h : Awake w D F dA) {v : Value} (hsv : SB w v bsAb) : Calls Try.prog 12 #[.pointer (some ⟨D, 0, none⟩), hv key1, v] w fun e w' => ∃ F', e = .returned (.int .i64 0) ∧ Awake w' D F' dB ∧ Byk w w' ∧ Chg F w w' ∧ (∀ k, F' k → F k ∨ w.heap.size ≤ k) :=
  (put_live h rfl hsv (show 2 ≤ 1024 by decide) rfl (show ((0 : Nat) : Int) < 2 by decide) ⟨show 0 < 1099511627776 by decide, show 0 < 1099511627776 by decide, fun q => show 0 < 1099511627776 by decide⟩).mono fun e w' ⟨h1, h2, h3, h4⟩ => ⟨_, h1, h2, h3, h4, fun k hk => hk.imp id (fun hk => hk.1)⟩
theorem append_dC {w : World} {D : Nat} {F : Nat → Prop} (h : Awake w D F dB) {v : Value} (hsv : SB w v bsHello) : Calls Try.prog 14 #[.pointer (some ⟨D, 0, none⟩), v] w fun e w' => ∃ F', e = .returned (.int .i64 0) ∧ Awake w' D F' dC ∧ Byk w w' ∧ Chg F w w' ∧ (∀ k, F' k → F k ∨ w.heap.size ≤ k) :=
  (append_live h rfl hsv (show ((0 : Nat) : Int) + ((5 : Nat) : Int) ≤ 10 by decide) (show (10 : Int) ≤ 1048576 by decide) (by simp [bsHello]) ⟨show 1 < 1099511627776 by decide, show 1 < 1099511627776 by decide⟩).mono fun e w' ⟨h1, h2, h3, h4⟩ => ⟨_, h1, h2, h3, h4, fun k hk => hk.imp id (fun hk => hk.1)⟩
theorem get_dD {w : World} {D : Nat} {F : Nat → Prop} (h : Awake w D F dC) : Calls Try.prog 8 #[.pointer (some ⟨D, 0, none⟩), hv key1] w fun e w' => ∃ F' A c, e = .returned (.tuple #[.slice A 2 c, .int .i64 0]) ∧ DB w' (fun _ => True) (.slice A 2 c) bsAb ∧ Awake w' D F' dD ∧ Byk w w' ∧ Chg F w w' ∧ (∀ k, F' k → F k ∨ w.heap.size ≤ k) :=
  (get_live h rfl dC_blob (show 2 ≤ 1048576 by decide) (show 2 < 1099511627776 by decide)).mono fun e w' ⟨A, c, h1, h2, h3, h4, h5⟩ => ⟨_, A, c, h1, h2, h3, h4, h5, fun k hk => hk.imp id (fun hk => hk.1)⟩
theorem read_dE {w : World} {D : Nat} {F : Nat → Prop} (h : Awake w D F dD) : Calls Try.prog 10 #[.pointer (some ⟨D, 0, none⟩)] w fun e w' => ∃ F' A c, e = .returned (.tuple #[.slice A 5 c, .int .i64 0]) ∧ DB w' (fun _ => True) (.slice A 5 c) bsHello ∧ Awake w' D F' dE ∧ Byk w w' ∧ Chg F w w' ∧ (∀ k, F' k → F k ∨ w.heap.size ≤ k) :=
  (read_live h rfl (show 3 < 1099511627776 by decide)).mono fun e w' ⟨A, c, h1, h2, h3, h4, h5⟩ => ⟨_, A, c, h1, h2, h3, h4, h5, fun k hk => hk.imp id (fun hk => hk.1)⟩
theorem acc_dE {w : World} {D : Nat} {F : Nat → Prop} (h : Awake w D F dE) : Calls Try.prog 20 #[.pointer (some ⟨D, 0, none⟩)] w fun e w' => ∃ A c, e = .returned (.slice A 4 c) ∧ Below w.heap.size w w' :=
  (accesses_live h).mono fun e w' ⟨A, c, h1, h2, h3⟩ => ⟨A, c, h1, h3⟩

theorem dA_to {w w' : World} {D : Nat} {F : Nat → Prop} {d : Dv} (h : Awake w D F d) (hb : Below w.heap.size w w') : Awake w' D F d := h.below hb
theorem key_lit : (Value.agg #[.int .u8 1, .int .u8 0, .int .u8 0, .int .u8 0, .int .u8 0, .int .u8 0, .int .u8 0, .int .u8 0, .int .u8 0, .int .u8 0, .int .u8 0, .int .u8 0, .int .u8 0, .int .u8 0, .int .u8 0, .int .u8 0, .int .u8 0, .int .u8 0, .int .u8 0, .int .u8 0, .int .u8 0, .int .u8 0, .int .u8 0, .int .u8 0, .int .u8 0, .int .u8 0, .int .u8 0, .int .u8 0, .int .u8 0, .int .u8 0, .int .u8 0, .int .u8 0]) = hv key1 := rfl

theorem new_step {w0 w w' : World} {F F' : Nat → Prop} (hb : Below w0.heap.size w0 w) (hF : ∀ k, F k → w0.heap.size ≤ k) (hc : Chg F w w') (hF' : ∀ k, F' k → F k ∨ w.heap.size ≤ k) : Below w0.heap.size w0 w' ∧ ∀ k, F' k → w0.heap.size ≤ k :=
  ⟨hb.trans ⟨hc.os, hc.tape, hc.output, hc.size, fun k hk => hc.block k (Nat.lt_of_lt_of_le hk hb.size) (fun h => by have := hF k h; omega)⟩, fun k hk => (hF' k hk).elim (hF k) (fun h => Nat.le_trans hb.size h)⟩

set_option maxHeartbeats 1000000 in
set_option maxRecDepth 8000 in
theorem fixed_true (w : World) : Calls Try.prog 23 #[] w fun e w' => e = .returned (.bool true) ∧ Below w.heap.size w w' := by
  go_enter Try.func23, Try.ntmps23
  go_wp2_with (first
    | (go_at_call 6; refine (new_dA _).mono ?_; rintro en w1 ⟨D, F, rfl, hb1, hA1, hF1⟩; have HA1 := Lib.hid hA1; have HB1 := Lib.hid hb1; have HF1 := Lib.hid hF1; clear hb1 hA1 hF1)
    | (go_at_call 12; rw [key_lit]; refine (put_dB (HA1.out.below (by (repeat (first | exact Below.refl _ _ | refine bg_al ?_ | refine bg_gr ?_ | refine bg_drn ?_ | refine bg_dr ?_ | assumption)))) (sb_lit rfl rfl rfl (by decide))).mono ?_; rintro en w2 ⟨F2, rfl, hA2, hb2, hc2, hf2⟩; have HS2 := Lib.hid (new_step (w0 := w) (by have hb1 := HB1.out; (repeat (first | exact Below.refl _ _ | refine bg_al ?_ | refine bg_gr ?_ | refine bg_drn ?_ | refine bg_dr ?_ | assumption))) HF1.out hc2 hf2); have HA2 := Lib.hid hA2; clear hb2 hA2 hc2 hf2)
    | (go_at_call 14; refine (append_dC (HA2.out.below (by (repeat (first | exact Below.refl _ _ | refine bg_al ?_ | refine bg_gr ?_ | refine bg_drn ?_ | refine bg_dr ?_ | assumption)))) (sb_lit rfl rfl rfl (by decide))).mono ?_; rintro en w3 ⟨F3, rfl, hA3, hb3, hc3, hf3⟩; have HS3 := Lib.hid (new_step (w0 := w) (by have hb2 := HS2.out.1; (repeat (first | exact Below.refl _ _ | refine bg_al ?_ | refine bg_gr ?_ | refine bg_drn ?_ | refine bg_dr ?_ | assumption))) HS2.out.2 hc3 hf3); have HA3 := Lib.hid hA3; clear hb3 hA3 hc3 hf3)
    | (go_at_call 8; rw [key_lit]; refine (get_dD HA3.out).mono ?_; rintro en w4 ⟨F4, A4, c4, rfl, hs4, hA4, hb4, hc4, hf4⟩; have HS4' := Lib.hid (new_step (w0 := w) HS3.out.1 HS3.out.2 hc4 hf4); have HS4 := Lib.hid hs4; have HA4 := Lib.hid hA4; clear hs4 hA4 hb4 hc4 hf4)
    | (go_at_call 10; refine (read_dE HA4.out).mono ?_; rintro en w5 ⟨F5, A5, c5, rfl, hs5, hA5, hb5, hc5, hf5⟩; have HS5' := Lib.hid (new_step (w0 := w) HS4'.out.1 HS4'.out.2 hc5 hf5); have HA5 := Lib.hid hA5; have hcv5 := convS hs5.1; have hcv4 := convS (Byk.db HS4.out hb5).1; clear hs5 hA5 hb5 hc5 hf5)
    | (go_at_call 20; refine (acc_dE HA5.out).mono ?_; rintro en w6 ⟨A6, c6, rfl, hb6⟩; have HB6 := Lib.hid hb6; clear hb6))
  go_ret
  exact ⟨rfl, bel_trans HS5'.out.1 HB6.out⟩
end Go.Proofs.Ytcbglojjbgenlaa
