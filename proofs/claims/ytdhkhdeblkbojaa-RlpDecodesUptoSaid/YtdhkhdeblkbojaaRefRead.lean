/- The document's reader: read. -/
import Derived.Test.YtdhkhdeblkbojaaRefDec
set_option linter.unusedSimpArgs false
namespace Go.Proofs.Ytdhkhdeblkbojaa
open Go.RowKit
attribute [local go_sem ↓] Go.wp_at_zero Go.wp_at_succ
attribute [local go_sem] size_gr cell_gr frozen_gr setCell_gr gr_drew gr_drewN lt_k lt_kc le_k le_kc sub_kc

def RdPost (w : World) (r : DR It) (e : Ending) (w' : World) : Prop :=
  match r with
  | .ok x q => ∃ v0 v1 v2 sv, e = .returned (.agg #[v0, v1, v2, .int .i64 (q : Int), .int .i64 0, .int .i64 0]) ∧ RdI w' (Made w w') v0 v1 v2 x sv ∧ OwnS w' w.heap.size sv ∧ Below w.heap.size w w'
  | .bad p c => e = .returned (.agg #[.bool false, .slice none 0 0, .slice none 0 0, .int .i64 0, .int .i64 (p : Int), .int .i64 c]) ∧ Below w.heap.size w w'

def ReadSays (b : List UInt8) (v : Value) (w0 : World) (f : Nat) : Prop :=
  ∀ (w : World) (p e d : Nat), Below w0.heap.size w0 w → p ≤ e → e ≤ b.length → d ≤ 80 → 2 * (e - p) + 1 ≤ f →
    Calls Try.prog 58 #[v, .int .i64 (p : Int), .int .i64 (e : Int), .int .i64 (d : Int)] w (RdPost w (decI f b p e d))

theorem set6 (w : World) (H : Nat) (u0 u1 u2 u3 u4 u5 : Value) : Chg (· = H) w ((((((w.setCell ⟨H, 0, none⟩ u0).setCell ⟨H, 1, none⟩ u1).setCell ⟨H, 2, none⟩ u2).setCell ⟨H, 3, none⟩ u3).setCell ⟨H, 4, none⟩ u4).setCell ⟨H, 5, none⟩ u5) :=
  ((((((Chg.refl (· = H) w).setCell rfl _).setCell rfl _).setCell rfl _).setCell rfl _).setCell rfl _).setCell rfl _
theorem row6 {w : World} {H : Nat} {x0 x1 x2 x3 x4 x5 : Value} {e : TypeId} (h : w.heap[H]? = some (.cells #[x0, x1, x2, x3, x4, x5] e (0, 0))) (u0 u1 u2 u3 u4 u5 : Value) :
    ((((((w.setCell ⟨H, 0, none⟩ u0).setCell ⟨H, 1, none⟩ u1).setCell ⟨H, 2, none⟩ u2).setCell ⟨H, 3, none⟩ u3).setCell ⟨H, 4, none⟩ u4).setCell ⟨H, 5, none⟩ u5).heap[H]? = some (.cells #[u0, u1, u2, u3, u4, u5] e (0, 0)) := by
  have h1 := heap_setCell_same w H 0 _ _ u0 h
  have h2 := heap_setCell_same _ H 1 _ _ u1 h1
  have h3 := heap_setCell_same _ H 2 _ _ u2 h2
  have h4 := heap_setCell_same _ H 3 _ _ u3 h3
  have h5 := heap_setCell_same _ H 4 _ _ u4 h4
  exact heap_setCell_same _ H 5 _ _ u5 h5
theorem sl_ft {A : Option Addr} {b : List UInt8} {cb t n : Nat} (h : t + n ≤ b.length) (hc : b.length ≤ cb) : ∀ W, (Instr.slice 22 (.slice A b.length cb) (some (.int .i64 (t : Int))) (some (.int .i64 ((t : Int) + (n : Int)))) none).run Try.prog W = .ok (.slice (cutA A cb t) n (cb - t)) W := fun W => by
  have h := run_slice_fromto bytesT A b.length cb t (t + n) (by omega) (by omega) W
  rw [show ((t + n : Nat) : Int) = (t : Int) + (n : Int) by omega, show t + n - t = n by omega] at h
  exact h
theorem sb_ft {w : World} {bl off : Nat} {b : List UInt8} {cb t n : Nat} (hr : RdB w (some ⟨bl, off, none⟩) b) (h : t + n ≤ b.length) (hc : b.length ≤ cb) (hm : cb ≤ maxLen) : SB w (.slice (cutA (some ⟨bl, off, none⟩) cb t) n (cb - t)) ((b.drop t).take n) := by
  have hcl : ((b.drop t).take n).length = n := by simp; omega
  refine ⟨_, _, by rw [hcl], (hr.cut hc).take n, by rw [hcl]; omega, by unfold maxLen at hm ⊢; omega, fun e' => ?_⟩
  unfold cutA at e'
  split at e' <;> cases e'

set_option maxRecDepth 100000 in
set_option maxHeartbeats 6000000 in
theorem read_step (b : List UInt8) (v : Value) (w0 : World) (f : Nat) (hb : b.length ≤ 1099511627776) (hv : SB w0 v b) (ih : ∀ g, g < f + 1 → ReadSays b v w0 g) : ReadSays b v w0 (f + 1) := by
  intro w p e d hw hp he hd hf
  have HV := Lib.hid (hv.below hw)
  obtain ⟨A, cb, rfl, hrd, hcb, hmx, -⟩ := hv
  have HIH := Lib.hid ih
  have HW := Lib.hid hw
  have HR := Lib.hid (hrd.below hw)
  unfold maxLen at hmx
  clear ih hw hrd
  by_cases h0 : p = e
  · rw [show decI (f + 1) b p e d = .bad p 50 by rw [decI, if_pos h0]]
    have h0' : ((p : Int) == (e : Int)) = true := by simp; omega
    clear h0
    go_enter Try.func58, Try.ntmps58
    go_wp2_with fail
    refine bodyPost_ret (v := .agg #[.bool false, .slice none 0 0, .slice none 0 0, .int .i64 0, .int .i64 (p : Int), .int .i64 50]) (by simp [results, Try.results58, go_sem]) rfl ⟨rfl, by (repeat (first | exact Below.refl _ _ | refine bg_al ?_ | refine bg_gr ?_ | refine bg_drn ?_ | refine bg_dr ?_ | assumption))⟩
  · have h0' : ((p : Int) == (e : Int)) = false := by simp; omega
    have hpl : p < b.length := by omega
    obtain ⟨bl, off, rfl, hc⟩ := HR.out p hpl
    have hblt : bl < w.heap.size := World.block_lt_of_cell? w _ hc
    have h8 := u8_lt b[p]
    have hi1 : (p : Int) < (b.length : Int) := by omega
    have HG := Lib.hid (getD_at (l := b) (k := p) hpl)
    by_cases h1 : b[p].toNat < 128
    · rw [show decI (f + 1) b p e d = .ok (.mk false [b[p]] []) (p + 1) by rw [decI, if_neg h0, HG.out, if_pos h1]]
      have h1' : ((b[p].toNat : Nat) : Int) < 128 := by omega
      clear h0 h1
      go_enter Try.func58, Try.ntmps58
      go_wp2_with fail
      refine bodyPost_ret (v := .agg #[.bool false, .slice (some ⟨w.heap.size + 1, 0, none⟩) 1 1, .slice none 0 0, .int .i64 ((p : Int) + 1), .int .i64 0, .int .i64 0]) (by simp [results, Try.results58, go_sem]) rfl ?_
      have hown : OwnB _ w.heap.size (.slice (some ⟨w.heap.size + 1, 0, none⟩) 1 1) [b[p]] := own_lit0 (X := w.alloc (.cells #[.bool false, .slice (some ⟨w.heap.size + 1, 0, none⟩) 1 1, .slice none 0 0, .int .i64 ((p : Int) + 1), .int .i64 0, .int .i64 0] 96)) (cs := #[.int .u8 ((b[p].toNat : Nat) : Int)]) (by simp) (by rfl) (by rfl) (by omega) (by simp)
      exact ⟨_, _, _, [.slice (some ⟨w.heap.size + 1, 0, none⟩) 1 1], rfl, RdI.leaf false hown.sb hown.fr, OwnS.one hown, by (repeat (first | exact Below.refl _ _ | refine bg_al ?_ | refine bg_gr ?_ | refine bg_drn ?_ | refine bg_dr ?_ | assumption))⟩
    · have h1' : ¬ ((b[p].toNat : Nat) : Int) < 128 := by omega
      by_cases h2 : 192 ≤ b[p].toNat ∧ 80 ≤ d
      · rw [show decI (f + 1) b p e d = .bad p 53 by rw [decI, if_neg h0, HG.out, if_neg h1, if_pos h2]]
        have h2' : (192 : Int) ≤ ((b[p].toNat : Nat) : Int) := by omega
        have h2'' : (80 : Int) < (d : Int) + 1 := by omega
        clear h0 h1 h2
        go_enter Try.func58, Try.ntmps58
        go_wp2_with fail
        refine bodyPost_ret (v := .agg #[.bool false, .slice none 0 0, .slice none 0 0, .int .i64 0, .int .i64 (p : Int), .int .i64 53]) (by simp [results, Try.results58, go_sem]) rfl ⟨rfl, by (repeat (first | exact Below.refl _ _ | refine bg_al ?_ | refine bg_gr ?_ | refine bg_drn ?_ | refine bg_dr ?_ | assumption))⟩
      · have hdec : Hid (decI (f + 1) b p e d = match headN b p e with
            | .bad q r => .bad q r
            | .ok n tq =>
              if e - tq < n then .bad p 50
              else if 192 ≤ b[p].toNat then match decL f b tq (tq + n) (d + 1) with
                | .bad q r => .bad q r
                | .ok xs tq' => .ok (.mk true [] xs) tq'
              else if n = 1 ∧ (b.getD tq 0).toNat < 128 then .bad p 52
              else .ok (.mk false ((b.drop tq).take n) []) (tq + n)) := by
          show _ = _
          rw [decI, if_neg h0, HG.out, if_neg h1, if_neg h2]
          rfl
        obtain ⟨m, hm⟩ : ∃ m, b[p].toNat % 64 = m := ⟨_, rfl⟩
        have HM : Hid ((b.getD p 0).toNat % 64 = m) := by show _ = _; rw [HG.out]; exact hm
        have hm64 : m < 64 := by omega
        have HMI := Lib.hid hm
        clear hm
        obtain ⟨L, hL⟩ : ∃ L, L = decide ((192 : Int) ≤ ((b[p].toNat : Nat) : Int)) := ⟨_, rfl⟩
        have HL : Hid ((192 ≤ b[p].toNat ∧ L = true ∧ d < 80) ∨ (b[p].toNat < 192 ∧ L = false)) := by
          show _ ∨ _
          by_cases h3 : 192 ≤ b[p].toNat
          · left
            exact ⟨h3, by rw [hL]; simp; omega, by omega⟩
          · right
            exact ⟨by omega, by rw [hL]; simp; omega⟩
        have hL' : decide ((192 : Int) ≤ ((b[p].toNat : Nat) : Int)) = L := hL.symm
        have hpe : p < e := by omega
        clear h0 h1 h2 hL
        go_enter Try.func58, Try.ntmps58
        go_upto_region 7 with fail
        go_cut [46] (fun s46 wx => s46 = .bool false ∧ wx = w.alloc (.cells #[.bool false, .slice none 0 0, .slice none 0 0, .int .i64 0, .int .i64 0, .int .i64 0] 96))
        case first =>
          rcases HL.out with ⟨-, rfl, hd80⟩ | ⟨-, rfl⟩
          · have h4' : ¬ (80 : Int) < (d : Int) + 1 := by omega
            clear hd80
            go_wp2_with fail
            go_meet
            case rel => exact ⟨rfl, rfl⟩
          · go_wp2_with fail
            go_meet
            case rel => exact ⟨rfl, rfl⟩
        case rest =>
          obtain ⟨rfl, rfl⟩ := hcut
          go_upto_if 51 with fail
          go_cut [11] (fun s11 wx => s11 = .int .i64 (m : Int) ∧ wx = w.alloc (.cells #[.bool false, .slice none 0 0, .slice none 0 0, .int .i64 0, .int .i64 0, .int .i64 0] 96))
          case first =>
            rcases HL.out with ⟨h3, rfl, -⟩ | ⟨h3, rfl⟩
            · have hmi : ((b[p].toNat : Nat) : Int) - 192 = (m : Int) := by have := HMI.out; omega
              clear h3
              go_wp2_with fail
              go_meet
              case rel => exact ⟨rfl, rfl⟩
            · have hmi : ((b[p].toNat : Nat) : Int) - 128 = (m : Int) := by have := HMI.out; omega
              clear h3
              go_wp2_with fail
              go_meet
              case rel => exact ⟨rfl, rfl⟩
          case rest =>
            obtain ⟨rfl, rfl⟩ := hcut
            obtain ⟨t0, ht0⟩ : ∃ t0, p + 1 = t0 := ⟨_, rfl⟩
            have ht0' : (p : Int) + 1 = (t0 : Int) := by omega
            have HT0 := Lib.hid ht0
            have ht0e : t0 ≤ e := by omega
            clear ht0
            go_upto_if 58 with fail
            go_cut [12, 13] (fun s12 s13 wx => ∃ n t D, headN b p e = .ok n t ∧ s12 = .int .i64 (t : Int) ∧ s13 = .int .i64 (n : Int) ∧ wx = (w.alloc (.cells #[.bool false, .slice none 0 0, .slice none 0 0, .int .i64 0, .int .i64 0, .int .i64 0] 96)).gr D)
            case first =>
              by_cases k1 : m < 56
              · have k1' : ¬ (56 : Int) ≤ (m : Int) := by omega
                have HH : Hid (headN b p e = .ok m t0) := by show _ = _; unfold headN; rw [HM.out, if_pos k1, HT0.out]
                clear k1
                go_wp2_with fail
                go_meet
                case rel => exact ⟨m, t0, Dl.nil _, HH.out, rfl, rfl, (gr_nil _).symm⟩
              · have k1' : (56 : Int) ≤ (m : Int) := by omega
                obtain ⟨k, hk⟩ : ∃ k, m - 55 = k := ⟨_, rfl⟩
                have hk' : (m : Int) - 55 = (k : Int) := by omega
                have hh : Hid (headN b p e = if e - t0 < k then .bad p 50 else if (b.getD t0 0).toNat = 0 then .bad p 52 else if 1048576 < beNat ((b.drop t0).take k) then .bad p 54 else if beNat ((b.drop t0).take k) < 56 then .bad p 52 else .ok (beNat ((b.drop t0).take k)) (t0 + k)) := by
                  show _ = _
                  unfold headN
                  rw [HM.out, if_neg k1, HT0.out, hk]
                have hk1 : 0 < k := by omega
                have hk9 : k < 9 := by omega
                clear k1 hk
                by_cases k2 : e - t0 < k
                · have k2' : (e : Int) - (t0 : Int) < (k : Int) := by omega
                  have HH : Hid (headN b p e = .bad p 50) := by show _ = _; rw [hh.out, if_pos k2]
                  clear k2
                  go_wp2_with fail
                  refine bodyPost_ret (v := .agg #[.bool false, .slice none 0 0, .slice none 0 0, .int .i64 0, .int .i64 (p : Int), .int .i64 50]) (by simp [results, Try.results58, go_sem]) rfl ?_
                  rw [hdec.out, HH.out]
                  exact ⟨rfl, by (repeat (first | exact Below.refl _ _ | refine bg_al ?_ | refine bg_gr ?_ | refine bg_drn ?_ | refine bg_dr ?_ | assumption))⟩
                · have k2' : ¬ (e : Int) - (t0 : Int) < (k : Int) := by omega
                  have htl : t0 < b.length := by omega
                  obtain ⟨bl2, off2, heq, hc2⟩ := HR.out t0 htl
                  injection heq with heq
                  injection heq with e1 e2
                  subst e1 e2
                  have HG2 := Lib.hid (getD_at (l := b) (k := t0) htl)
                  have h82 := u8_lt b[t0]
                  have hi2 : (t0 : Int) < (b.length : Int) := by omega
                  by_cases k3 : b[t0].toNat = 0
                  · have HH : Hid (headN b p e = .bad p 52) := by show _ = _; rw [hh.out, if_neg k2, HG2.out, if_pos k3]
                    have k3' : ((b[t0].toNat : Nat) : Int) = 0 := by omega
                    clear k2 k3
                    go_wp2_with fail
                    refine bodyPost_ret (v := .agg #[.bool false, .slice none 0 0, .slice none 0 0, .int .i64 0, .int .i64 (p : Int), .int .i64 52]) (by simp [results, Try.results58, go_sem]) rfl ?_
                    rw [hdec.out, HH.out]
                    exact ⟨rfl, by (repeat (first | exact Below.refl _ _ | refine bg_al ?_ | refine bg_gr ?_ | refine bg_drn ?_ | refine bg_dr ?_ | assumption))⟩
                  · have k3' : (((b[t0].toNat : Nat) : Int) == 0) = false := by simp; omega
                    have hsl := sl_ft (A := some ⟨bl, off, none⟩) (b := b) (cb := cb) (t := t0) (n := k) (by omega) hcb
                    have HNM := Lib.hid (number_any (.slice (cutA (some ⟨bl, off, none⟩) cb t0) k (cb - t0)) ((b.drop t0).take k) (w.alloc (.cells #[.bool false, .slice none 0 0, .slice none 0 0, .int .i64 0, .int .i64 0, .int .i64 0] 96)) (sb_ft (HR.out.below (by (repeat (first | exact Below.refl _ _ | refine bg_al ?_ | refine bg_gr ?_ | refine bg_drn ?_ | refine bg_dr ?_ | assumption)))) (by omega) hcb (by unfold maxLen; omega)) (by simp; omega))
                    obtain ⟨z, hz⟩ : ∃ z, beNat ((b.drop t0).take k) = z := ⟨_, rfl⟩
                    have hsz : satN ((b.drop t0).take k) = min z 1048577 := by unfold satN; rw [hz]
                    rw [hsz] at HNM
                    rw [hz, if_neg k2, HG2.out, if_neg k3] at hh
                    clear k2 k3 hz hsz
                    by_cases k4 : 1048576 < z
                    · have HH : Hid (headN b p e = .bad p 54) := by show _ = _; rw [hh.out, if_pos k4]
                      rw [show min z 1048577 = 1048577 by omega] at HNM
                      clear k4
                      go_wp2_with (go_at_call 75; refine HNM.out.mono ?_; rintro en w1 ⟨rfl, hb1⟩; obtain ⟨D1, rfl⟩ := gr_of_below hb1; clear hb1)
                      refine bodyPost_ret (v := .agg #[.bool false, .slice none 0 0, .slice none 0 0, .int .i64 0, .int .i64 (p : Int), .int .i64 54]) (by simp [results, Try.results58, go_sem]) rfl ?_
                      rw [hdec.out, HH.out]
                      exact ⟨rfl, by (repeat (first | exact Below.refl _ _ | refine bg_al ?_ | refine bg_gr ?_ | refine bg_drn ?_ | refine bg_dr ?_ | assumption))⟩
                    · rw [show min z 1048577 = z by omega] at HNM
                      have k4' : ¬ (1048576 : Int) < (z : Int) := by omega
                      by_cases k5 : z < 56
                      · have HH : Hid (headN b p e = .bad p 52) := by show _ = _; rw [hh.out, if_neg k4, if_pos k5]
                        have k5' : (z : Int) < 56 := by omega
                        clear k4 k5
                        go_wp2_with (go_at_call 75; refine HNM.out.mono ?_; rintro en w1 ⟨rfl, hb1⟩; obtain ⟨D1, rfl⟩ := gr_of_below hb1; clear hb1)
                        refine bodyPost_ret (v := .agg #[.bool false, .slice none 0 0, .slice none 0 0, .int .i64 0, .int .i64 (p : Int), .int .i64 52]) (by simp [results, Try.results58, go_sem]) rfl ?_
                        rw [hdec.out, HH.out]
                        exact ⟨rfl, by (repeat (first | exact Below.refl _ _ | refine bg_al ?_ | refine bg_gr ?_ | refine bg_drn ?_ | refine bg_dr ?_ | assumption))⟩
                      · have HH : Hid (headN b p e = .ok z (t0 + k)) := by show _ = _; rw [hh.out, if_neg k4, if_neg k5]
                        have k5' : ¬ (z : Int) < 56 := by omega
                        clear k4 k5
                        go_wp2_with (go_at_call 75; refine HNM.out.mono ?_; rintro en w1 ⟨rfl, hb1⟩; obtain ⟨D1, rfl⟩ := gr_of_below hb1; clear hb1)
                        go_meet
                        case rel => exact ⟨z, t0 + k, D1, HH.out, by simp, rfl, rfl⟩
            case rest =>
              obtain ⟨n, t, D, hh, rfl, rfl, rfl⟩ := hcut
              obtain ⟨q1, q2, q3⟩ := headN_to hh hpe
              rw [hh] at hdec
              clear hh ht0' HT0 ht0e
              by_cases k6 : e - t < n
              · have HH : Hid (decI (f + 1) b p e d = .bad p 50) := by show _ = _; rw [hdec.out]; exact if_pos k6
                have k6' : (e : Int) - (t : Int) < (n : Int) := by omega
                clear k6
                go_wp2_with fail
                refine bodyPost_ret (v := .agg #[.bool false, .slice none 0 0, .slice none 0 0, .int .i64 0, .int .i64 (p : Int), .int .i64 50]) (by simp [results, Try.results58, go_sem]) rfl ?_
                rw [HH.out]
                exact ⟨rfl, by (repeat (first | exact Below.refl _ _ | refine bg_al ?_ | refine bg_gr ?_ | refine bg_drn ?_ | refine bg_dr ?_ | assumption))⟩
              · have k6' : ¬ (e : Int) - (t : Int) < (n : Int) := by omega
                have HK6 := Lib.hid k6
                have htn : t + n ≤ e := by omega
                clear k6
                go_upto_if 101 with fail
                rcases HL.out with ⟨h3, rfl, hd80⟩ | ⟨h3, rfl⟩
                · have HD : Hid (decI (f + 1) b p e d = match decL f b t (t + n) (d + 1) with
                      | .bad q r => .bad q r
                      | .ok xs tq' => .ok (.mk true [] xs) tq') := by
                    show _ = _
                    rw [hdec.out]
                    show (if e - t < n then _ else _) = _
                    rw [if_neg HK6.out, if_pos h3]
                  have hs1 : IntKind.i64.wrap ((t : Int) + (n : Int)) = (t : Int) + (n : Int) := IntWalk.i64_in _ (by omega)
                  clear h3
                  go_wp2_with fail
                  have hRes : (((w.alloc (.cells #[.bool false, .slice none 0 0, .slice none 0 0, .int .i64 0, .int .i64 0, .int .i64 0] 96)).gr D).alloc (.cells #[.bool true, .slice none 0 0, .slice none 0 0] 42)).heap[w.heap.size]? = some (.cells #[.bool false, .slice none 0 0, .slice none 0 0, .int .i64 0, .int .i64 0, .int .i64 0] 96 (0, 0)) :=
                    ((show Below (w.alloc (.cells #[.bool false, .slice none 0 0, .slice none 0 0, .int .i64 0, .int .i64 0, .int .i64 0] 96)).heap.size (w.alloc (.cells #[.bool false, .slice none 0 0, .slice none 0 0, .int .i64 0, .int .i64 0, .int .i64 0] 96)) _ by (repeat (first | exact Below.refl _ _ | refine bg_al ?_ | refine bg_gr ?_ | refine bg_drn ?_ | refine bg_dr ?_ | assumption))).block w.heap.size (by simp)).trans (heap_alloc_new w _)
                  have hSt : BoxRel 42 (fun _ _ => True) (w.heap.size + 1 + D.k) (w.heap.size + 1 + D.k + 1) _ _ (.bool true) (.slice none 0 0) (.slice none 0 0) [] := BoxRel.start (wG := ((w.alloc (.cells #[.bool false, .slice none 0 0, .slice none 0 0, .int .i64 0, .int .i64 0, .int .i64 0] 96)).gr D).alloc (.cells #[.bool true, .slice none 0 0, .slice none 0 0] 42)) (heap_new (by simp only [World.size_alloc, size_gr, World.size_setCell, World.size_drew])) (by simp only [World.size_alloc, size_gr, World.size_setCell, World.size_drew]) (by omega)
                  have hBW : Below w.heap.size w (((w.alloc (.cells #[.bool false, .slice none 0 0, .slice none 0 0, .int .i64 0, .int .i64 0, .int .i64 0] 96)).gr D).alloc (.cells #[.bool true, .slice none 0 0, .slice none 0 0] 42)) := by (repeat (first | exact Below.refl _ _ | refine bg_al ?_ | refine bg_gr ?_ | refine bg_drn ?_ | refine bg_dr ?_ | assumption))
                  have HSt := Lib.hid hSt
                  have HRes := Lib.hid hRes
                  have HBW := Lib.hid hBW
                  clear hRes hSt hBW
                  generalize hWG : ((w.alloc (.cells #[.bool false, .slice none 0 0, .slice none 0 0, .int .i64 0, .int .i64 0, .int .i64 0] 96)).gr D).alloc (.cells #[.bool true, .slice none 0 0, .slice none 0 0] 42) = WG at HSt HRes HBW ⊢
                  clear hWG
                  generalize hG : w.heap.size + 1 + D.k = G at HSt ⊢
                  have hGw : w.heap.size < G := by omega
                  clear hG
                  go_loopw [12] (fun v wr => ∃ (q f' : Nat) (V : Value) (E : List Ent), v = .int .i64 q ∧ BoxRel 42 (fun _ _ => True) G (G + 1) WG wr (.bool true) (.slice none 0 0) V E ∧ q ≤ t + n ∧ E.length ≤ q ∧ decL f b t (t + n) (d + 1) = pfx (E.map (·.x)) (decL f' b q (t + n) (d + 1)) ∧ 2 * (t + n - q) + 2 ≤ f' ∧ f' ≤ f) (fun v _ => t + n - (intOf v).toNat)
                  case atStart => exact ⟨t, f, _, [], rfl, HSt.out, by omega, Nat.zero_le _, by simp [pfx]; cases decL f b t (t + n) (d + 1) <;> rfl, by omega, Nat.le_refl _⟩
                  case round =>
                    obtain ⟨q, f', V, E, rfl, hrel, hq, hE, hdc, hf', hff⟩ := hrel
                    have hwr : Below w.heap.size w wr := HBW.out.trans (hrel.chg.bel (fun k hk => by omega) (by have := HBW.out.size; omega))
                    by_cases h1 : q < t + n
                    · obtain ⟨g, rfl⟩ : ∃ g, f' = g + 1 := ⟨f' - 1, by omega⟩
                      have h1i : (q : Int) < (t : Int) + (n : Int) := by omega
                      have hC := HIH.out g (by omega) wr q (t + n) (d + 1) (bel_trans HW.out hwr) (by omega) (by omega) (by omega) (by omega)
                      rw [show ((t + n : Nat) : Int) = (t : Int) + (n : Int) by omega, show ((d + 1 : Nat) : Int) = (d : Int) + 1 by omega] at hC
                      rw [decL_step (f := g) (b := b) (d := d + 1) h1] at hdc
                      have hs2 : IntKind.i64.wrap ((d : Int) + 1) = (d : Int) + 1 := IntWalk.i64_in _ (by omega)
                      have hwz := hwr.size
                      cases hI : decI g b q (t + n) (d + 1) with
                      | bad q' c =>
                        have hc50 := (dec_bad g).1 b q (t + n) (d + 1) q' c (by omega) (by omega) hI
                        have HH : Hid (decI (f + 1) b p e d = .bad q' c) := by
                          show _ = _
                          rw [HD.out, hdc, hI]
                          rfl
                        rw [hI] at hC
                        have HC := Lib.hid hC
                        have hcne : (c == 0) = false := by simp; omega
                        have hR3 := (hrel.chg.block w.heap.size (by have := HBW.out.size; have := hrel.size; omega) (by omega)).trans HRes.out
                        have hwlt : w.heap.size < wr.heap.size := by have := hrel.size; have := hrel.chg.size; omega
                        have r0 := cell_of_row wr w.heap.size 0 _ _ _ hR3
                        have r1 := cell_of_row wr w.heap.size 1 _ _ _ hR3
                        have r2 := cell_of_row wr w.heap.size 2 _ _ _ hR3
                        have r3 := cell_of_row wr w.heap.size 3 _ _ _ hR3
                        have r4 := cell_of_row wr w.heap.size 4 _ _ _ hR3
                        have r5 := cell_of_row wr w.heap.size 5 _ _ _ hR3
                        have z0 := frozen_of_row wr w.heap.size 0 _ _ hR3
                        have z1 := frozen_of_row wr w.heap.size 1 _ _ hR3
                        have z2 := frozen_of_row wr w.heap.size 2 _ _ hR3
                        have z3 := frozen_of_row wr w.heap.size 3 _ _ hR3
                        have z4 := frozen_of_row wr w.heap.size 4 _ _ hR3
                        have z5 := frozen_of_row wr w.heap.size 5 _ _ hR3
                        simp at r0 r1 r2 r3 r4 r5
                        have HWR := Lib.hid hwr
                        have hR6 := Lib.hid hR3
                        clear hrel hwr hdc hR3 hL' hC hI
                        go_wp2_with (go_at_call 58; refine HC.out.mono ?_; rintro en w2 ⟨rfl, hb2⟩; obtain ⟨D2, rfl⟩ := gr_of_below hb2; clear hb2)
                        have hk6 := row6 hR6.out (.bool false) (.slice none 0 0) (.slice none 0 0) (.int .i64 0) (.int .i64 (q' : Int)) (.int .i64 c)
                        have hc6 := set6 wr w.heap.size (.bool false) (.slice none 0 0) (.slice none 0 0) (.int .i64 0) (.int .i64 (q' : Int)) (.int .i64 c)
                        generalize ((((((wr.setCell ⟨w.heap.size, 0, none⟩ (.bool false)).setCell ⟨w.heap.size, 1, none⟩ (.slice none 0 0)).setCell ⟨w.heap.size, 2, none⟩ (.slice none 0 0)).setCell ⟨w.heap.size, 3, none⟩ (.int .i64 0)).setCell ⟨w.heap.size, 4, none⟩ (.int .i64 (q' : Int))).setCell ⟨w.heap.size, 5, none⟩ (.int .i64 c)) = W6 at hk6 hc6 ⊢
                        have hB6 : Below w.heap.size w W6 := HWR.out.trans (hc6.bel (B := w.heap.size) (fun k hk => by omega) (by omega))
                        have hz6 := hc6.size
                        have hB7 : Below w.heap.size w ((W6.gr D2).alloc (.cells #[.bool false, .slice none 0 0, .slice none 0 0, .int .i64 0, .int .i64 (q' : Int), .int .i64 c] 96)) := by (repeat (first | exact Below.refl _ _ | refine bg_al ?_ | refine bg_gr ?_ | refine bg_drn ?_ | refine bg_dr ?_ | assumption))
                        have hk7 := ((show Below W6.heap.size W6 ((W6.gr D2).alloc (.cells #[.bool false, .slice none 0 0, .slice none 0 0, .int .i64 0, .int .i64 (q' : Int), .int .i64 c] 96)) by (repeat (first | exact Below.refl _ _ | refine bg_al ?_ | refine bg_gr ?_ | refine bg_drn ?_ | refine bg_dr ?_ | assumption))).block w.heap.size (by omega)).trans hk6
                        generalize (W6.gr D2).alloc (.cells #[.bool false, .slice none 0 0, .slice none 0 0, .int .i64 0, .int .i64 (q' : Int), .int .i64 c] 96) = W at hB7 hk7 ⊢
                        refine bodyPost_ret (v := .agg #[.bool false, .slice none 0 0, .slice none 0 0, .int .i64 0, .int .i64 (q' : Int), .int .i64 c]) (by simp [results, Try.results58, go_sem, cell_of_row W w.heap.size 0 _ _ _ hk7, cell_of_row W w.heap.size 1 _ _ _ hk7, cell_of_row W w.heap.size 2 _ _ _ hk7, cell_of_row W w.heap.size 3 _ _ _ hk7, cell_of_row W w.heap.size 4 _ _ _ hk7, cell_of_row W w.heap.size 5 _ _ _ hk7]) rfl ?_
                        rw [HH.out]
                        exact ⟨rfl, hB7⟩
                      | ok x q2 =>
                        have hq2 := (dec_to g).1 b q (t + n) (d + 1) x q2 (by omega) hI
                        rw [hI] at hC hdc
                        have HC := Lib.hid hC
                        have HDC : Hid (decL f b t (t + n) (d + 1) = pfx ((E ++ [(⟨undef, undef, undef, x, []⟩ : Ent)]).map (·.x)) (decL g b q2 (t + n) (d + 1))) := by
                          show _ = _
                          rw [hdc]
                          show pfx _ (pfx [x] _) = _
                          rw [pfx_pfx, List.map_append]
                          rfl
                        have HRel := Lib.hid hrel
                        have HWR := Lib.hid hwr
                        have hGr : G < wr.heap.size := by have := hrel.size; have := hrel.chg.size; omega
                        clear hrel hwr hdc hC hI hL'
                        go_upto_region 38 with (go_at_call 58; refine HC.out.mono ?_; rintro en w2 ⟨v0, v1, v2, sv, rfl, hrd, hos, hb2⟩; obtain ⟨l', A1, n1, cc1, A2, n2, cc2, rfl, rfl, rfl⟩ := hrd.form; have HRd := Lib.hid hrd; have HOs := Lib.hid hos; obtain ⟨D2, rfl⟩ := gr_of_below hb2; clear hb2 hrd hos)
                        have hy : Below wr.heap.size wr ((wr.gr D2).alloc (.cells #[.bool l', .slice A1 n1 cc1, .slice A2 n2 cc2, .int .i64 (q2 : Int), .int .i64 0, .int .i64 0] 96)) := by (repeat (first | exact Below.refl _ _ | refine bg_al ?_ | refine bg_gr ?_ | refine bg_drn ?_ | refine bg_dr ?_ | assumption))
                        have hyb := heap_alloc_new (wr.gr D2) (.cells #[.bool l', .slice A1 n1 cc1, .slice A2 n2 cc2, .int .i64 (q2 : Int), .int .i64 0, .int .i64 0] 96)
                        have hym : Below (wr.gr D2).heap.size (wr.gr D2) ((wr.gr D2).alloc (.cells #[.bool l', .slice A1 n1 cc1, .slice A2 n2 cc2, .int .i64 (q2 : Int), .int .i64 0, .int .i64 0] 96)) := by (repeat (first | exact Below.refl _ _ | refine bg_al ?_ | refine bg_gr ?_ | refine bg_drn ?_ | refine bg_dr ?_ | assumption))
                        have hrd := (HRd.out.kept hym).mono (T' := Made wr ((wr.gr D2).alloc (.cells #[.bool l', .slice A1 n1 cc1, .slice A2 n2 cc2, .int .i64 (q2 : Int), .int .i64 0, .int .i64 0] 96))) (fun k hk => ⟨hk.1, by have := hk.2; have := hym.size; omega⟩)
                        have hos := HOs.out.below hym
                        have hRsz : (wr.gr D2).heap.size = wr.heap.size + D2.k := size_gr _ _
                        rw [hRsz] at hyb
                        clear hym hRsz HRd HOs
                        generalize (wr.gr D2).alloc (.cells #[.bool l', .slice A1 n1 cc1, .slice A2 n2 cc2, .int .i64 (q2 : Int), .int .i64 0, .int .i64 0] 96) = wy at hy hyb hrd hos ⊢
                        have hr2 := HRel.out.kept local_true hy
                        have hcV : wy.cell? ⟨G, 2, none⟩ = some V := by rw [cell_of_row wy _ 2 _ _ _ hr2.blk]; rfl
                        have hfV : wy.frozen? ⟨G, 2, none⟩ = false := frozen_of_row _ _ _ _ _ hr2.blk
                        have y0 : wy.cell? ⟨wr.heap.size + D2.k, 0, none⟩ = some (.bool l') := by rw [cell_of_row wy _ 0 _ _ _ hyb]; rfl
                        have y1 : wy.cell? ⟨wr.heap.size + D2.k, 1, none⟩ = some (.slice A1 n1 cc1) := by rw [cell_of_row wy _ 1 _ _ _ hyb]; rfl
                        have y2 : wy.cell? ⟨wr.heap.size + D2.k, 2, none⟩ = some (.slice A2 n2 cc2) := by rw [cell_of_row wy _ 2 _ _ _ hyb]; rfl
                        have y3 : wy.cell? ⟨wr.heap.size + D2.k, 3, none⟩ = some (.int .i64 (q2 : Int)) := by rw [cell_of_row wy _ 3 _ _ _ hyb]; rfl
                        have hrow := hr2.row
                        have hVH : ∀ k, V.ownBlock = some k → G + 1 ≤ k ∧ k < wr.heap.size := fun k hk => HRel.out.row.lt k hk
                        have HVH := Lib.hid hVH
                        have HRow := Lib.hid hrow
                        have HY := Lib.hid hy
                        have HRd := Lib.hid hrd
                        have HOs := Lib.hid hos
                        have hyz := World.block_lt_of_cell? wy _ y0
                        have hwyG : G < wy.heap.size := World.block_lt_of_cell? wy _ hcV
                        clear hr2 hrow hVH hrd hos hyb hy
                        go_wp2_with (at_builtin; refine wpList_ap (s := .tmp 144) (x := .tmp 147) ritemsT rfl rfl (by rfl) (own_below HRow.out ((Below.refl _ _).alloc (Nat.le_refl _) _)) (by rfl) (Src.block (m := 1) (heap_alloc_new _ _) (by rfl)) HRd.out.cells (by simp only [maxLen]; omega) (by omega) (by simp; omega) ?_; intro v9 w9 hap; obtain ⟨g9, c9, rfl, hc9, hm9, hb9, hlt9⟩ := own_form hap.1 (by omega); obtain ⟨k9, z9⟩ := hold_ap hap (fun k hk => by have := HVH.out k hk; simp only; omega) (hold_chg ((Chg.refl (fun _ => False) wy).alloc _) ⟨hcV, hfV⟩ (fun h => h)); have e9 := ap_cell hap (fun k hk => by have := HVH.out k hk; simp only; omega) (chg_cell ((Chg.refl (fun _ => False) wy).alloc _) y3 (fun h => h)))
                        have hL := BoxRel.round local_true (by decide) HRel.out HY.out HRd.out HOs.out (fun _ _ => trivial) hap
                        exact ⟨⟨q2, g, _, _, rfl, hL, by omega, by simp; omega, by simpa using HDC.out, by omega, by omega⟩, by simp [intOf]; omega⟩
                    · obtain ⟨g, rfl⟩ : ∃ g, f' = g + 1 := ⟨f' - 1, by omega⟩
                      obtain rfl : q = t + n := by omega
                      have HH : Hid (decI (f + 1) b p e d = .ok (.mk true [] (E.map (·.x))) (t + n)) := by
                        show _ = _
                        rw [HD.out, hdc, decL, if_pos (Nat.le_refl _)]
                        simp [pfx]
                      have h1i : ¬ (((t + n : Nat)) : Int) < (t : Int) + (n : Int) := by omega
                      have hR3 := (hrel.chg.block w.heap.size (by have := HBW.out.size; have := hrel.size; omega) (by omega)).trans HRes.out
                      obtain ⟨AV, cV, rfl, -⟩ := Src.own hrel.row
                      have g0 : wr.cell? ⟨G, 0, none⟩ = some (.bool true) := cell_of_row wr G 0 _ _ _ hrel.blk
                      have g1 : wr.cell? ⟨G, 1, none⟩ = some (.slice none 0 0) := cell_of_row wr G 1 _ _ _ hrel.blk
                      have g2 : wr.cell? ⟨G, 2, none⟩ = some (.slice AV E.length cV) := cell_of_row wr G 2 _ _ _ hrel.blk
                      have r0 := cell_of_row wr w.heap.size 0 _ _ _ hR3
                      have r1 := cell_of_row wr w.heap.size 1 _ _ _ hR3
                      have r2 := cell_of_row wr w.heap.size 2 _ _ _ hR3
                      have r3 := cell_of_row wr w.heap.size 3 _ _ _ hR3
                      have r4 := cell_of_row wr w.heap.size 4 _ _ _ hR3
                      have r5 := cell_of_row wr w.heap.size 5 _ _ _ hR3
                      have z0 := frozen_of_row wr w.heap.size 0 _ _ hR3
                      have z1 := frozen_of_row wr w.heap.size 1 _ _ hR3
                      have z2 := frozen_of_row wr w.heap.size 2 _ _ hR3
                      have z3 := frozen_of_row wr w.heap.size 3 _ _ hR3
                      have z4 := frozen_of_row wr w.heap.size 4 _ _ hR3
                      have z5 := frozen_of_row wr w.heap.size 5 _ _ hR3
                      simp at r0 r1 r2 r3 r4 r5
                      have HRel := Lib.hid hrel
                      have HWR := Lib.hid hwr
                      clear hrel hwr hdc hR3 hL'
                      go_wp2_with fail
                      refine bodyPost_ret (v := .agg #[.bool true, .slice none 0 0, .slice AV E.length cV, .int .i64 ((t : Int) + (n : Int)), .int .i64 0, .int .i64 0]) (by simp [results, Try.results58, go_sem, r0, r1, r2, r3, r4, r5]) rfl ?_
                      rw [HH.out]
                      have hc6 := set6 wr w.heap.size (.bool true) (.slice none 0 0) (.slice AV E.length cV) (.int .i64 ((t : Int) + (n : Int))) (.int .i64 0) (.int .i64 0)
                      have hsz6 := hc6.size
                      have hRL := HRel.out.lt
                      have hwz := HWR.out.size
                      exact ⟨_, _, _, _, rfl, BoxRel.out (T := Made w _) HRel.out hc6 (by omega) (SB.nil _) (fun a n c h => by cases h) (fun k h1 h2 => ⟨by omega, h2⟩),
                        OwnS.append (a := [.slice none 0 0]) (w1 := w) (OwnS.one (OwnB.nil w w.heap.size)) HRel.out.str (OwnS.one (OwnB.nil _ _)) ((HRel.out.str.chg hc6 (fun k hk => by omega)).mono (by omega)) (by omega),
                        HWR.out.trans (hc6.bel (fun k hk => by omega) (by omega))⟩
                · have HD : Hid (decI (f + 1) b p e d = if n = 1 ∧ (b.getD t 0).toNat < 128 then .bad p 52 else .ok (.mk false ((b.drop t).take n) []) (t + n)) := by
                    show _ = _
                    rw [hdec.out]
                    show (if e - t < n then _ else _) = _
                    rw [if_neg HK6.out, if_neg (by omega)]
                  clear h3
                  by_cases k7 : n = 1 ∧ (b.getD t 0).toNat < 128
                  · obtain ⟨k7, k8⟩ := k7
                    have k7' : ((n : Int) == 1) = true := by simp; omega
                    have htl : t < b.length := by omega
                    obtain ⟨bl2, off2, heq, hc2⟩ := HR.out t htl
                    injection heq with heq
                    injection heq with e1 e2
                    subst e1 e2
                    rw [getD_at (l := b) (k := t) htl] at k8
                    have HG2 := Lib.hid (getD_at (l := b) (k := t) htl)
                    have hi2 : (t : Int) < (b.length : Int) := by omega
                    have HH : Hid (decI (f + 1) b p e d = .bad p 52) := by show _ = _; rw [HD.out, HG2.out, if_pos ⟨k7, k8⟩]
                    have k8' : ((b[t].toNat : Nat) : Int) < 128 := by omega
                    clear k7 k8
                    go_wp2_with fail
                    refine bodyPost_ret (v := .agg #[.bool false, .slice none 0 0, .slice none 0 0, .int .i64 0, .int .i64 (p : Int), .int .i64 52]) (by simp [results, Try.results58, go_sem]) rfl ?_
                    rw [HH.out]
                    exact ⟨rfl, by (repeat (first | exact Below.refl _ _ | refine bg_al ?_ | refine bg_gr ?_ | refine bg_drn ?_ | refine bg_dr ?_ | assumption))⟩
                  · have HH : Hid (decI (f + 1) b p e d = .ok (.mk false ((b.drop t).take n) []) (t + n)) := by show _ = _; rw [HD.out, if_neg k7]
                    have HK7 := Lib.hid k7
                    clear k7
                    go_upto_region 29 with fail
                    go_cut [110] (fun s110 wx => s110 = .bool false ∧ wx = (w.alloc (.cells #[.bool false, .slice none 0 0, .slice none 0 0, .int .i64 0, .int .i64 0, .int .i64 0] 96)).gr D)
                    case first =>
                      by_cases k7 : n = 1
                      · have k7' : ((n : Int) == 1) = true := by simp; omega
                        have htl : t < b.length := by omega
                        obtain ⟨bl2, off2, heq, hc2⟩ := HR.out t htl
                        injection heq with heq
                        injection heq with e1 e2
                        subst e1 e2
                        have HG2 := Lib.hid (getD_at (l := b) (k := t) htl)
                        have hi2 : (t : Int) < (b.length : Int) := by omega
                        have k8' : ¬ ((b[t].toNat : Nat) : Int) < 128 := fun h => HK7.out ⟨k7, by rw [HG2.out]; omega⟩
                        clear k7
                        go_wp2_with fail
                        go_meet
                        case rel => exact ⟨rfl, rfl⟩
                      · have k7' : ((n : Int) == 1) = false := by simp; omega
                        clear k7
                        go_wp2_with fail
                        go_meet
                        case rel => exact ⟨rfl, rfl⟩
                    case rest =>
                      obtain ⟨rfl, rfl⟩ := hcut
                      have hsl := sl_ft (A := some ⟨bl, off, none⟩) (b := b) (cb := cb) (t := t) (n := n) (by omega) hcb
                      have HSB := Lib.hid (sb_ft (n := n) (t := t) HR.out (by omega) hcb (by unfold maxLen; omega))
                      go_wp2_with (at_builtin; go_must (refine ap_new [] ((b.drop t).take n) ((b.drop t).take n) n rfl (by simp; omega) rfl rfl rfl rfl (by rfl) (by simp only [World.size_alloc, size_gr, World.size_setCell, World.size_drew]) rfl rfl rfl (by rfl) (HSB.out.below (by (repeat (first | exact Below.refl _ _ | refine bg_al ?_ | refine bg_gr ?_ | refine bg_drn ?_ | refine bg_dr ?_ | assumption)))) (by simp; omega) ?_); intro D7 A7 c7 ho7 hc7 hm7)
                      refine bodyPost_ret (v := .agg #[.bool false, .slice A7 n c7, .slice none 0 0, .int .i64 ((t : Int) + (n : Int)), .int .i64 0, .int .i64 0]) (by simp [results, Try.results58, go_sem]) rfl ?_
                      rw [HH.out]
                      have hown : OwnB (((w.alloc (.cells #[.bool false, .slice A7 n c7, .slice none 0 0, .int .i64 ((t : Int) + (n : Int)), .int .i64 0, .int .i64 0] 96)).gr D).gr D7) w.heap.size (.slice A7 n c7) ((b.drop t).take n) := OwnB.mono (ho7 _ (by (repeat (first | (refine at_base ?_; simp only [World.size_alloc, size_gr, World.size_setCell, World.size_drew]; done) | (refine at_base ?_; rfl) | refine at_al ?_ | refine at_gr ?_ | refine at_drn ?_ | refine at_dr ?_ | assumption)))) (by simp only [World.size_alloc, size_gr]; omega)
                      exact ⟨_, _, _, [_], rfl, RdI.leaf false hown.sb hown.fr, OwnS.one hown, by (repeat (first | exact Below.refl _ _ | refine bg_al ?_ | refine bg_gr ?_ | refine bg_drn ?_ | refine bg_dr ?_ | assumption))⟩
theorem read_all (b : List UInt8) (v : Value) (w0 : World) (hb : b.length ≤ 1099511627776) (hv : SB w0 v b) (f : Nat) : ∀ g, g < f + 1 → ReadSays b v w0 g := by
  induction f with
  | zero => exact fun g hg w p e d _ _ _ _ h => by omega
  | succ f ih =>
    intro g hg
    by_cases h : g < f + 1
    · exact ih g h
    · obtain rfl : g = f + 1 := by omega
      exact read_step b v w0 f hb hv ih
theorem refread_any (b : List UInt8) (v : Value) (w : World) (hb : b.length ≤ 1048576) (hv : SB w v b) :
    Calls Try.prog 58 #[v, .int .i64 0, .int .i64 (b.length : Int), .int .i64 0] w (RdPost w (decI (2 * b.length + 1) b 0 b.length 0)) := by
  have := read_all b v w (by omega) hv (2 * b.length + 1) (2 * b.length + 1) (by omega) w 0 b.length 0 (Below.refl _ _) (by omega) (by omega) (by omega) (by omega)
  simpa using this
end Go.Proofs.Ytdhkhdeblkbojaa
