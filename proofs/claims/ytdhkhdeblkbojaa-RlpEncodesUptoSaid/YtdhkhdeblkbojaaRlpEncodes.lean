/- The walk of cairnlaw05.RlpEncodes. -/
import Derived.Test.YtdhkhdeblkbojaaRefNum
import Derived.Test.YtdhkhdeblkbojaaGrowApart
set_option linter.unusedSimpArgs false
namespace Go.Proofs.Ytdhkhdeblkbojaa
open Go.RowKit
attribute [local go_sem ↓] Go.wp_at_zero Go.wp_at_succ
attribute [local go_sem] size_gr cell_gr frozen_gr setCell_gr gr_drew gr_drewN lt_k lt_kc le_k le_kc sub_kc conv_const

def another : List UInt8 := [97, 110, 111, 116, 104, 101, 114, 32, 111, 110, 101]
def anotherF : List UInt8 := [139, 97, 110, 111, 116, 104, 101, 114, 32, 111, 110, 101]
theorem enc_another : encR (.mk false another []) = (anotherF, 0) := by
  simp [encR, another, anotherF, deepI, mayI, sizeI, formI, headB]

theorem numR_len {n : Int} {l : List UInt8} {e : Int} (hn0 : -9223372036854775808 ≤ n) (hn1 : n ≤ 9223372036854775807) (h : numR n = (l, e)) : l.length ≤ 8 := by
  unfold numR at h
  split at h
  · injection h with h1; subst h1; simp
  · injection h with h1; subst h1; exact beB_len 8 _ (by omega)

theorem encR_len {x : It} {f : List UInt8} {c : Int} (h : encR x = (f, c)) (hw : wtI x ≤ 1099511627776) : f.length ≤ 1048576 := by
  by_cases hc : c = 0
  · subst hc; exact (dec_enc hw h).2.1
  · have := encR_bad (x := x) (by rw [h]; exact hc)
    rw [h] at this
    simp only at this
    subst this
    simp
theorem marks_agr {w : World} {D : Dl} {v0 v1 v2 : Value} {x : It} {sv : List Value} (h : RdI (w.gr D) (Made w (w.gr D)) v0 v1 v2 x sv) (hm : ∀ v ∈ sv, Marked (w.gr D) v) {W : World} (ha : At w.heap.size D W) : ∀ v ∈ sv, Marked W v := by
  have hf : ∀ v ∈ sv, Fr (Made w (w.gr D)) v := by
    clear hm ha
    induction h with
    | mk l v1 bs A c E h1 h1' h2 h3 h4 h4' h5 h6 ih =>
      intro v hv
      rcases List.mem_cons.1 hv with rfl | hv
      · exact h1'
      · obtain ⟨e, he, hve⟩ := List.mem_flatMap.1 hv
        exact ih e he v hve
  intro v hv
  obtain ⟨g, n, c, rfl, h1, h2⟩ := hm v hv
  refine ⟨g, n, c, rfl, h1, ?_⟩
  have := hf _ hv ⟨g, 0, none⟩ n c rfl
  rw [World.cell?_of_block (w := w.gr D) (a := ⟨g, n, none⟩) (at_heap ha (made_rg.1 this))]
  exact h2

set_option maxRecDepth 100000 in
set_option maxHeartbeats 4000000 in
theorem encodes_walk {w : World} {T : Nat → Prop} {v0 v1 v2 : Value} {x : It} {sv : List Value} (n : Int) (hx : RdI w T v0 v1 v2 x sv) (hwx : wtI x ≤ 16777216) (hn0 : -9223372036854775808 ≤ n) (hn1 : n ≤ 9223372036854775807) :
    Calls Try.prog 10 #[.agg #[v0, v1, v2], .int .i64 n] w fun e w' => e = .returned (.bool true) ∧ Below w.heap.size w w' := by
  obtain ⟨l1, A1, n1, c1, A2, n2, c2, rfl, rfl, rfl⟩ := hx.form
  have HX := Lib.hid hx
  obtain ⟨fx, ex, hEx⟩ : ∃ fa ea, encR x = (fa, ea) := ⟨_, _, rfl⟩
  have HEx := Lib.hid hEx
  clear hx hEx
  go_enter Try.func10, Try.ntmps10
  go_wp2_with fail
  refine (rencode_any HEx.out (HX.out.kept (by (repeat (first | exact Below.refl _ _ | refine bg_al ?_ | refine bg_gr ?_ | refine bg_drn ?_ | refine bg_dr ?_ | assumption)))) (by omega)).mono ?_
  rintro en w1 ⟨va, rfl, ho, hb⟩; obtain ⟨D1, rfl⟩ := gr_of_below hb; clear hb
  obtain ⟨Aw, cw, rfl, -⟩ := ho.form
  have HWant := Lib.hid (ownG ho)
  clear ho
  go_wp2_with fail
  refine (rint_any (HX.out.kept (by (repeat (first | exact Below.refl _ _ | refine bg_al ?_ | refine bg_gr ?_ | refine bg_drn ?_ | refine bg_dr ?_ | assumption))))).mono ?_
  rintro en w1 ⟨rfl, hb⟩; obtain ⟨D2, rfl⟩ := gr_of_below hb; clear hb
  generalize hki : intR x = ki
  obtain ⟨k1, k2⟩ := ki
  have HKI := Lib.hid hki
  clear hki
  go_wp2_with fail
  refine (rnum_any n hn0 hn1 _).mono ?_
  rintro en w1 ⟨vy, rfl, ho, hb⟩; obtain ⟨D3, rfl⟩ := gr_of_below hb; clear hb
  obtain ⟨Ay, cy, rfl, -⟩ := ho.form
  have HY := Lib.hid (ownG ho)
  clear ho
  generalize hnn : numR n = nn at *
  obtain ⟨ny, ey⟩ := nn
  have hny := numR_len hn0 hn1 hnn
  have HNN := Lib.hid hnn
  clear hnn
  go_wp2_with fail
  refine (item_any HX.out _ (by (repeat (first | exact Below.refl _ _ | refine bg_al ?_ | refine bg_gr ?_ | refine bg_drn ?_ | refine bg_dr ?_ | assumption))) (by omega)).mono ?_
  rintro en w1 ⟨p0, p1, p2, sv2, rfl, hit, hos, hmk, hb⟩; obtain ⟨D4, rfl⟩ := gr_of_below hb; clear hb
  obtain ⟨l3, A5, n5, c5, A6, n6, c6, rfl, rfl, rfl⟩ := hit.form
  have hit2 := rdI_at hit
  simp only [World.size_alloc, size_gr] at hit2
  have HIT := Lib.hid hit2
  have HOS := Lib.hid (ownS_at hos)
  have HMK := Lib.hid hmk
  have HITw := Lib.hid hit
  clear hit hit2 hos hmk
  go_wp2_with fail
  refine (encode_eq HEx.out (HIT.out _ (by (repeat (first | (refine at_base ?_; simp only [World.size_alloc, size_gr, World.size_setCell, World.size_drew]; done) | (refine at_base ?_; rfl) | refine at_al ?_ | refine at_gr ?_ | refine at_drn ?_ | refine at_dr ?_ | assumption)))) (by omega)).mono ?_
  rintro en w1 ⟨vb, rfl, ho, hb⟩; obtain ⟨D5, rfl⟩ := gr_of_below hb; clear hb
  obtain ⟨Ab, cb, rfl, -⟩ := ho.form
  have HBb := Lib.hid (ownG ho)
  clear ho
  go_wp2_with fail
  refine (iint_any (HIT.out _ (by (repeat (first | (refine at_base ?_; simp only [World.size_alloc, size_gr, World.size_setCell, World.size_drew]; done) | (refine at_base ?_; rfl) | refine at_al ?_ | refine at_gr ?_ | refine at_drn ?_ | refine at_dr ?_ | assumption))))).mono ?_
  rw [HKI.out]
  rintro en w1 ⟨rfl, hb⟩; obtain ⟨D6, rfl⟩ := gr_of_below hb; clear hb
  go_wp2_with fail
  refine (inum_any n hn0 hn1 _).mono ?_
  rw [HNN.out]
  rintro en w1 ⟨vz, rfl, ho, hb⟩; obtain ⟨D7, rfl⟩ := gr_of_below hb; clear hb
  obtain ⟨Az, cz, rfl, -⟩ := ho.form
  have HZ := Lib.hid (ownG ho)
  clear ho
  go_wp2_with fail
  refine (awake_any _).mono ?_
  rintro en w1 ⟨rfl, hb⟩; obtain ⟨D8, rfl⟩ := gr_of_below hb; clear hb
  go_wp2_with fail
  refine (encode_eq HEx.out (HIT.out _ (by (repeat (first | (refine at_base ?_; simp only [World.size_alloc, size_gr, World.size_setCell, World.size_drew]; done) | (refine at_base ?_; rfl) | refine at_al ?_ | refine at_gr ?_ | refine at_drn ?_ | refine at_dr ?_ | assumption)))) (by omega)).mono ?_
  rintro en w1 ⟨vb, rfl, ho, hb⟩; obtain ⟨D9, rfl⟩ := gr_of_below hb; clear hb
  obtain ⟨Ac, cc, rfl, -⟩ := ho.form
  have HCc := Lib.hid (ownG ho)
  clear ho
  go_wp2_with fail
  refine (encode_eq enc_another (RdI.leaf (T := fun _ => True) false (sb_lit (by simp only [World.size_alloc, size_gr, World.size_setCell, World.size_drew]) rfl rfl (by decide)) (fun _ _ _ _ => trivial)) (by simp [wtI, wtL, another])).mono ?_
  rintro en w1 ⟨vb, rfl, ho, hb⟩; obtain ⟨D10, rfl⟩ := gr_of_below hb; clear hb
  obtain ⟨Ad, cd, rfl, -⟩ := ho.form
  have HDd := Lib.hid (ownG ho)
  clear ho
  go_wp2_with fail
  refine (inum_any n hn0 hn1 _).mono ?_
  rw [HNN.out]
  rintro en w1 ⟨vz, rfl, ho, hb⟩
  obtain ⟨Au, cu, rfl, -⟩ := ho.form
  obtain ⟨D11, rfl⟩ := gr_of_below hb; clear hb
  have HU := Lib.hid (ownG ho)
  clear ho
  go_wp2_with fail
  refine with_world (fun W0 hW0 => ?_); have hz0 := congrArg (fun W => W.heap.size) hW0; have hc0 := fun (b o : Nat) => congrArg (fun W => World.cell? W ⟨b, o, none⟩) hW0; (try simp only [World.size_alloc, size_gr, World.size_drew] at hz0); (try dsimp only at hc0); have HW0 := Lib.hid hW0; clear hW0
  have hzz : w.heap.size ≤ W0.heap.size := by omega
  have HB0 := Lib.hid (show Below w.heap.size w W0 by rw [HW0.out]; (repeat (first | exact Below.refl _ _ | refine bg_al ?_ | refine bg_gr ?_ | refine bg_drn ?_ | refine bg_dr ?_ | assumption)))
  go_cut [24] (fun s24 wx => s24 = .bool true ∧ ∃ D, wx = W0.gr D)
  case first =>
    have s1 := Lib.hid (show SB W0 _ _ from (HBb.out.own W0 (by rw [HW0.out]; (repeat (first | (refine at_base ?_; simp only [World.size_alloc, size_gr, World.size_setCell, World.size_drew]; done) | (refine at_base ?_; rfl) | refine at_al ?_ | refine at_gr ?_ | refine at_drn ?_ | refine at_dr ?_ | assumption)))).sb)
    have s2 := Lib.hid (show SB W0 _ _ from (HWant.out.own W0 (by rw [HW0.out]; (repeat (first | (refine at_base ?_; simp only [World.size_alloc, size_gr, World.size_setCell, World.size_drew]; done) | (refine at_base ?_; rfl) | refine at_al ?_ | refine at_gr ?_ | refine at_drn ?_ | refine at_dr ?_ | assumption)))).sb)
    have s3 := Lib.hid (show SB W0 _ _ from (HCc.out.own W0 (by rw [HW0.out]; (repeat (first | (refine at_base ?_; simp only [World.size_alloc, size_gr, World.size_setCell, World.size_drew]; done) | (refine at_base ?_; rfl) | refine at_al ?_ | refine at_gr ?_ | refine at_drn ?_ | refine at_dr ?_ | assumption)))).sb)
    have s4 := Lib.hid (show SB W0 (.slice Ad anotherF.length cd) anotherF from (HDd.out.own W0 (by rw [HW0.out]; (repeat (first | (refine at_base ?_; simp only [World.size_alloc, size_gr, World.size_setCell, World.size_drew]; done) | (refine at_base ?_; rfl) | refine at_al ?_ | refine at_gr ?_ | refine at_drn ?_ | refine at_dr ?_ | assumption)))).sb)
    have s5 := Lib.hid (show SB W0 _ _ from (HZ.out.own W0 (by rw [HW0.out]; (repeat (first | (refine at_base ?_; simp only [World.size_alloc, size_gr, World.size_setCell, World.size_drew]; done) | (refine at_base ?_; rfl) | refine at_al ?_ | refine at_gr ?_ | refine at_drn ?_ | refine at_dr ?_ | assumption)))).sb)
    have s6 := Lib.hid (show SB W0 _ _ from (HY.out.own W0 (by rw [HW0.out]; (repeat (first | (refine at_base ?_; simp only [World.size_alloc, size_gr, World.size_setCell, World.size_drew]; done) | (refine at_base ?_; rfl) | refine at_al ?_ | refine at_gr ?_ | refine at_drn ?_ | refine at_dr ?_ | assumption)))).sb)
    have s7 := Lib.hid (show SB W0 _ _ from (HU.out.own W0 (by rw [HW0.out]; (repeat (first | (refine at_base ?_; simp only [World.size_alloc, size_gr, World.size_setCell, World.size_drew]; done) | (refine at_base ?_; rfl) | refine at_al ?_ | refine at_gr ?_ | refine at_drn ?_ | refine at_dr ?_ | assumption)))).sb)
    go_region_held3 (fun W => (∀ (b o : Nat), b < W0.heap.size → W.cell? ⟨b, o, none⟩ = W0.cell? ⟨b, o, none⟩) ∧ (convert 22 9 (.slice Ab fx.length cb)).run Try.prog W = .ok (.string ⟨fx.toArray⟩) W ∧ (convert 22 9 (.slice Aw fx.length cw)).run Try.prog W = .ok (.string ⟨fx.toArray⟩) W ∧ (convert 22 9 (.slice Ac fx.length cc)).run Try.prog W = .ok (.string ⟨fx.toArray⟩) W ∧ (convert 22 9 (.slice Ad anotherF.length cd)).run Try.prog W = .ok (.string ⟨#[139, 97, 110, 111, 116, 104, 101, 114, 32, 111, 110, 101]⟩) W)
      (exact ⟨cellB (by (repeat (first | exact Below.refl _ _ | refine bg_al ?_ | refine bg_gr ?_ | refine bg_drn ?_ | refine bg_dr ?_ | assumption))), convS (s1.out.below (by (repeat (first | exact Below.refl _ _ | refine bg_al ?_ | refine bg_gr ?_ | refine bg_drn ?_ | refine bg_dr ?_ | assumption)))), convS (s2.out.below (by (repeat (first | exact Below.refl _ _ | refine bg_al ?_ | refine bg_gr ?_ | refine bg_drn ?_ | refine bg_dr ?_ | assumption)))), convS (s3.out.below (by (repeat (first | exact Below.refl _ _ | refine bg_al ?_ | refine bg_gr ?_ | refine bg_drn ?_ | refine bg_dr ?_ | assumption)))), convS (s4.out.below (by (repeat (first | exact Below.refl _ _ | refine bg_al ?_ | refine bg_gr ?_ | refine bg_drn ?_ | refine bg_dr ?_ | assumption))))⟩)
      (first
        | (go_at_call 28; have _t := hitB; refine (items_same (hitB.kept (Below.refl _ _)) _ (fun _ => True) _ _ _ (.mk false ny []) _ (Below.refl _ _) (RdI.leaf false (s6.out.below (by (repeat (first | exact Below.refl _ _ | refine bg_al ?_ | refine bg_gr ?_ | refine bg_drn ?_ | refine bg_dr ?_ | assumption)))) (fun _ _ _ _ => trivial))).mono ?_; rintro en w8 ⟨rfl, hb8⟩; have hsm2 : sameI (.mk false ny []) (.mk false ny []) = true := sameI_eq.2 rfl; rw [hsm2]; obtain ⟨D15, rfl⟩ := gr_of_below hb8; clear hb8)
        | (go_at_call 28; refine (items_same (hitA.kept (Below.refl _ _)) _ (fun _ => True) _ _ _ (.mk false ny []) _ (Below.refl _ _) (RdI.leaf false (s6.out.below (by (repeat (first | exact Below.refl _ _ | refine bg_al ?_ | refine bg_gr ?_ | refine bg_drn ?_ | refine bg_dr ?_ | assumption)))) (fun _ _ _ _ => trivial))).mono ?_; rintro en w8 ⟨rfl, hb8⟩; have hsm : sameI (.mk false ny []) (.mk false ny []) = true := sameI_eq.2 rfl; rw [hsm]; obtain ⟨D13, rfl⟩ := gr_of_below hb8; clear hb8)
        | (go_at_call 29; have _t := hitA; refine (back_any (w := W0) (T := fun _ => True) (x := .mk false ny []) (RdI.leaf false s7.out (fun _ _ _ _ => trivial)) _ (by (repeat (first | exact Below.refl _ _ | refine bg_al ?_ | refine bg_gr ?_ | refine bg_drn ?_ | refine bg_dr ?_ | assumption))) (by simp [wtI, wtL]; omega)).mono ?_; rintro en w7 ⟨q0, q1, q2, svB, rfl, hitB, -, hb7⟩; obtain ⟨D14, rfl⟩ := gr_of_below hb7; obtain ⟨l8, A9, n9, c9, A10, n10, c10, rfl, rfl, rfl⟩ := hitB.form; clear hb7)
        | (go_at_call 29; refine (back_any (w := W0) (T := fun _ => True) (x := .mk false ny []) (RdI.leaf false s5.out (fun _ _ _ _ => trivial)) _ (by (repeat (first | exact Below.refl _ _ | refine bg_al ?_ | refine bg_gr ?_ | refine bg_drn ?_ | refine bg_dr ?_ | assumption))) (by simp [wtI, wtL]; omega)).mono ?_; rintro en w7 ⟨q0, q1, q2, svA, rfl, hitA, -, hb7⟩; obtain ⟨D12, rfl⟩ := gr_of_below hb7; obtain ⟨l7, A7, n7, c7, A8, n8, c8, rfl, rfl, rfl⟩ := hitA.form; clear hb7))
    go_wp2_with fail
    go_meet
    case rel => exact ⟨rfl, gr_of_below (by (repeat (first | exact Below.refl _ _ | refine bg_al ?_ | refine bg_gr ?_ | refine bg_drn ?_ | refine bg_dr ?_ | assumption)))⟩
  case rest =>
    obtain ⟨rfl, D15, rfl⟩ := hcut
    (have hW0 := HW0.out; clear HW0 hz0 hc0; (try clear hHeld); subst hW0)
    go_wp2_with fail
    refine with_world (fun W0 hW0 => ?_); have hz0 := congrArg (fun W => W.heap.size) hW0; have hc0 := fun (b o : Nat) => congrArg (fun W => World.cell? W ⟨b, o, none⟩) hW0; (try simp only [World.size_alloc, size_gr, World.size_drew] at hz0); (try dsimp only at hc0); have HW0 := Lib.hid hW0; clear hW0; go_region_held3 (fun W => ∀ (b o : Nat), b < W0.heap.size → W.cell? ⟨b, o, none⟩ = W0.cell? ⟨b, o, none⟩) (exact cellB (by (repeat (first | exact Below.refl _ _ | refine bg_al ?_ | refine bg_gr ?_ | refine bg_drn ?_ | refine bg_dr ?_ | assumption))))
      (first
        | (go_at_call 39; refine (marked_any (HIT.out W0 (by rw [HW0.out]; (repeat (first | (refine at_base ?_; simp only [World.size_alloc, size_gr, World.size_setCell, World.size_drew]; done) | (refine at_base ?_; rfl) | refine at_al ?_ | refine at_gr ?_ | refine at_drn ?_ | refine at_dr ?_ | assumption)))) _ (by (repeat (first | exact Below.refl _ _ | refine bg_al ?_ | refine bg_gr ?_ | refine bg_drn ?_ | refine bg_dr ?_ | assumption))) (marks_agr HITw.out HMK.out (by rw [HW0.out]; (repeat (first | (refine at_base ?_; simp only [World.size_alloc, size_gr, World.size_setCell, World.size_drew]; done) | (refine at_base ?_; rfl) | refine at_al ?_ | refine at_gr ?_ | refine at_drn ?_ | refine at_dr ?_ | assumption))))).mono ?_; rintro en w8 ⟨rfl, hb8⟩; obtain ⟨D18, rfl⟩ := gr_of_below hb8; clear hb8)
        | (go_at_call 28; refine (items_same (hitA.kept (Below.refl _ _)) _ T _ _ _ x _ (Below.refl _ _) (HX.out.kept (bel_trans (a := W0) (by rw [HW0.out]; (repeat (first | exact Below.refl _ _ | refine bg_al ?_ | refine bg_gr ?_ | refine bg_drn ?_ | refine bg_dr ?_ | assumption))) (by (repeat (first | exact Below.refl _ _ | refine bg_al ?_ | refine bg_gr ?_ | refine bg_drn ?_ | refine bg_dr ?_ | assumption)))))).mono ?_; rintro en w8 ⟨rfl, hb8⟩; have hsm : sameI x x = true := sameI_eq.2 rfl; rw [hsm]; obtain ⟨D17, rfl⟩ := gr_of_below hb8; clear hb8)
        | (go_at_call 29; refine (back_any (HIT.out W0 (by rw [HW0.out]; (repeat (first | (refine at_base ?_; simp only [World.size_alloc, size_gr, World.size_setCell, World.size_drew]; done) | (refine at_base ?_; rfl) | refine at_al ?_ | refine at_gr ?_ | refine at_drn ?_ | refine at_dr ?_ | assumption)))) _ (by (repeat (first | exact Below.refl _ _ | refine bg_al ?_ | refine bg_gr ?_ | refine bg_drn ?_ | refine bg_dr ?_ | assumption))) (by omega)).mono ?_; rintro en w7 ⟨q0, q1, q2, svA, rfl, hitA, -, hb7⟩; obtain ⟨D16, rfl⟩ := gr_of_below hb7; obtain ⟨l7, A7, n7, c7, A8, n8, c8, rfl, rfl, rfl⟩ := hitA.form; clear hb7))
    (have hW0 := HW0.out; clear HW0 hz0 hc0; (try clear hHeld); subst hW0)
    clear hitA
    go_wp2_with fail
    have hmxn : anotherF.length = 12 := rfl
    refine with_world (fun W0 hW0 => ?_); have hz0 := congrArg (fun W => W.heap.size) hW0; have hc0 := fun (b o : Nat) => congrArg (fun W => World.cell? W ⟨b, o, none⟩) hW0; (try simp only [World.size_alloc, size_gr, World.size_drew] at hz0); (try dsimp only at hc0); have HW0 := Lib.hid hW0; clear hW0
    have x0 : W0.cell? ⟨w.heap.size, 0, none⟩ = some (.bool l1) := by rw [HW0.out]; go_simp
    have x1 : W0.cell? ⟨w.heap.size, 1, none⟩ = some (.slice A1 n1 c1) := by rw [HW0.out]; go_simp
    have x2 : W0.cell? ⟨w.heap.size, 2, none⟩ = some (.slice A2 n2 c2) := by rw [HW0.out]; go_simp
    have i0 : W0.cell? ⟨w.heap.size + 1 + D1.k + D2.k + D3.k + 1 + D4.k, 0, none⟩ = some (.bool l3) := by rw [HW0.out]; go_simp
    have i1 : W0.cell? ⟨w.heap.size + 1 + D1.k + D2.k + D3.k + 1 + D4.k, 1, none⟩ = some (.slice A5 n5 c5) := by rw [HW0.out]; go_simp
    have i2 : W0.cell? ⟨w.heap.size + 1 + D1.k + D2.k + D3.k + 1 + D4.k, 2, none⟩ = some (.slice A6 n6 c6) := by rw [HW0.out]; go_simp
    have z1 : W0.cell? ⟨w.heap.size + 1 + D1.k + D2.k + D3.k + 1 + D4.k + 1 + D5.k + D6.k + D7.k, 1, none⟩ = some (.slice Az ny.length cz) := by rw [HW0.out]; go_simp
    have u1 : W0.cell? ⟨w.heap.size + 1 + D1.k + D2.k + D3.k + 1 + D4.k + 1 + D5.k + D6.k + D7.k + 1 + D8.k + D9.k + 1 + D10.k + D11.k, 1, none⟩ = some (.slice Au ny.length cu) := by rw [HW0.out]; go_simp
    have rb := HBb.out.rg
    have rz := HZ.out.rg
    have rc := HCc.out.rg
    have rd := HDd.out.rg
    have ru := HU.out.rg
    simp only [World.size_alloc, size_gr] at rb rz rc rd ru
    have hR := InR.cons rb (InR.cons rc (InR.cons rd (InR.cons rz (InR.cons ru InR.nil))))
    have hD := dist_of hR (by simp only [List.pairwise_cons, List.mem_cons, List.not_mem_nil, or_false, forall_eq_or_imp, forall_eq, List.Pairwise.nil, and_true, implies_true, false_imp_iff]; omega)
    have hnot : ∀ k, (k < w.heap.size + 1 + D1.k + D2.k + D3.k + 1 + D4.k + 1 ∨ k = w.heap.size + 1 + D1.k + D2.k + D3.k + 1 + D4.k + 1 + D5.k + D6.k + D7.k ∨ k = w.heap.size + 1 + D1.k + D2.k + D3.k + 1 + D4.k + 1 + D5.k + D6.k + D7.k + 1 + D8.k + D9.k + 1 + D10.k + D11.k) → ¬ InS [Value.slice Ab fx.length cb, .slice Ac fx.length cc, .slice Ad anotherF.length cd, .slice Az ny.length cz, .slice Au ny.length cu] k := fun k hk hS => by
      obtain ⟨x, hx, h1, h2⟩ := inS_of hR hS
      simp only [List.mem_cons, List.not_mem_nil, or_false] at hx
      rcases hx with rfl | rfl | rfl | rfl | rfl <;> simp only at h1 h2 <;> omega
    have HK := Lib.hid (fun (W : World) (h : ∀ b o u, ¬ InS [Value.slice Ab fx.length cb, .slice Ac fx.length cc, .slice Ad anotherF.length cd, .slice Az ny.length cz, .slice Au ny.length cu] b → W0.cell? ⟨b, o, none⟩ = some u → W.cell? ⟨b, o, none⟩ = some u) => (show W.cell? ⟨w.heap.size, 0, none⟩ = some (.bool l1) ∧ W.cell? ⟨w.heap.size, 1, none⟩ = some (.slice A1 n1 c1) ∧ W.cell? ⟨w.heap.size, 2, none⟩ = some (.slice A2 n2 c2) ∧ W.cell? ⟨w.heap.size + 1 + D1.k + D2.k + D3.k + 1 + D4.k, 0, none⟩ = some (.bool l3) ∧ W.cell? ⟨w.heap.size + 1 + D1.k + D2.k + D3.k + 1 + D4.k, 1, none⟩ = some (.slice A5 n5 c5) ∧ W.cell? ⟨w.heap.size + 1 + D1.k + D2.k + D3.k + 1 + D4.k, 2, none⟩ = some (.slice A6 n6 c6) ∧ W.cell? ⟨w.heap.size + 1 + D1.k + D2.k + D3.k + 1 + D4.k + 1 + D5.k + D6.k + D7.k, 1, none⟩ = some (.slice Az ny.length cz) ∧ W.cell? ⟨w.heap.size + 1 + D1.k + D2.k + D3.k + 1 + D4.k + 1 + D5.k + D6.k + D7.k + 1 + D8.k + D9.k + 1 + D10.k + D11.k, 1, none⟩ = some (.slice Au ny.length cu) from ⟨h _ _ _ (hnot _ (by omega)) x0, h _ _ _ (hnot _ (by omega)) x1, h _ _ _ (hnot _ (by omega)) x2, h _ _ _ (hnot _ (by omega)) i0, h _ _ _ (hnot _ (by omega)) i1, h _ _ _ (hnot _ (by omega)) i2, h _ _ _ (hnot _ (by omega)) z1, h _ _ _ (hnot _ (by omega)) u1⟩))
    have hfl : fx.length ≤ 1099511627776 := by have := encR_len HEx.out (by omega); omega
    have HD := Lib.hid hD
    have HNot := Lib.hid hnot
    have hat0 : At (w.heap.size + 1 + D1.k + D2.k + D3.k + 1) D4 W0 := by rw [HW0.out]; (repeat (first | (refine at_base ?_; simp only [World.size_alloc, size_gr, World.size_setCell, World.size_drew]; done) | (refine at_base ?_; rfl) | refine at_al ?_ | refine at_gr ?_ | refine at_drn ?_ | refine at_dr ?_ | assumption))
    have HAT0 := Lib.hid hat0
    have HB0 := Lib.hid (show Below w.heap.size w W0 by rw [HW0.out]; (repeat (first | exact Below.refl _ _ | refine bg_al ?_ | refine bg_gr ?_ | refine bg_drn ?_ | refine bg_dr ?_ | assumption)))
    have hbs : w.heap.size ≤ W0.heap.size := HB0.out.size
    have s1 := Lib.hid (show OwnB W0 _ _ _ from (HBb.out.own W0 (by rw [HW0.out]; (repeat (first | (refine at_base ?_; simp only [World.size_alloc, size_gr, World.size_setCell, World.size_drew]; done) | (refine at_base ?_; rfl) | refine at_al ?_ | refine at_gr ?_ | refine at_drn ?_ | refine at_dr ?_ | assumption)))))
    have s2 := Lib.hid (show OwnB W0 _ _ _ from (HCc.out.own W0 (by rw [HW0.out]; (repeat (first | (refine at_base ?_; simp only [World.size_alloc, size_gr, World.size_setCell, World.size_drew]; done) | (refine at_base ?_; rfl) | refine at_al ?_ | refine at_gr ?_ | refine at_drn ?_ | refine at_dr ?_ | assumption)))))
    have s3 := Lib.hid (show OwnB W0 _ _ _ from (HDd.out.own W0 (by rw [HW0.out]; (repeat (first | (refine at_base ?_; simp only [World.size_alloc, size_gr, World.size_setCell, World.size_drew]; done) | (refine at_base ?_; rfl) | refine at_al ?_ | refine at_gr ?_ | refine at_drn ?_ | refine at_dr ?_ | assumption)))))
    have s4 := Lib.hid (show OwnB W0 _ _ _ from (HZ.out.own W0 (by rw [HW0.out]; (repeat (first | (refine at_base ?_; simp only [World.size_alloc, size_gr, World.size_setCell, World.size_drew]; done) | (refine at_base ?_; rfl) | refine at_al ?_ | refine at_gr ?_ | refine at_drn ?_ | refine at_dr ?_ | assumption)))))
    have s5 := Lib.hid (show OwnB W0 _ _ _ from (HU.out.own W0 (by rw [HW0.out]; (repeat (first | (refine at_base ?_; simp only [World.size_alloc, size_gr, World.size_setCell, World.size_drew]; done) | (refine at_base ?_; rfl) | refine at_al ?_ | refine at_gr ?_ | refine at_drn ?_ | refine at_dr ?_ | assumption)))))
    clear x0 x1 x2 i0 i1 i2 z1 u1 rb rc rd rz ru hR hD hnot hat0 hc0
    go_region_held3 (fun W => W.cell? ⟨w.heap.size, 0, none⟩ = some (.bool l1) ∧ W.cell? ⟨w.heap.size, 1, none⟩ = some (.slice A1 n1 c1) ∧ W.cell? ⟨w.heap.size, 2, none⟩ = some (.slice A2 n2 c2) ∧ W.cell? ⟨w.heap.size + 1 + D1.k + D2.k + D3.k + 1 + D4.k, 0, none⟩ = some (.bool l3) ∧ W.cell? ⟨w.heap.size + 1 + D1.k + D2.k + D3.k + 1 + D4.k, 1, none⟩ = some (.slice A5 n5 c5) ∧ W.cell? ⟨w.heap.size + 1 + D1.k + D2.k + D3.k + 1 + D4.k, 2, none⟩ = some (.slice A6 n6 c6) ∧ W.cell? ⟨w.heap.size + 1 + D1.k + D2.k + D3.k + 1 + D4.k + 1 + D5.k + D6.k + D7.k, 1, none⟩ = some (.slice Az ny.length cz) ∧ W.cell? ⟨w.heap.size + 1 + D1.k + D2.k + D3.k + 1 + D4.k + 1 + D5.k + D6.k + D7.k + 1 + D8.k + D9.k + 1 + D10.k + D11.k, 1, none⟩ = some (.slice Au ny.length cu))
      (exact HK.out _ (by first | exact fun b o u hn h => cell_later (w := w7) (by (repeat (first | exact Below.refl _ _ | refine bg_al ?_ | refine bg_gr ?_ | refine bg_drn ?_ | refine bg_dr ?_ | assumption))) (HK7.out b o u hn h) | exact fun b o u _ h => cell_later (w := W0) (by (repeat (first | exact Below.refl _ _ | refine bg_al ?_ | refine bg_gr ?_ | refine bg_drn ?_ | refine bg_dr ?_ | assumption))) h))
      (first
        | (go_at_call 20; go_must (refine (apart_g (cw := W0.drew) (base := w.heap.size) (vs := [Value.slice Ab fx.length cb, .slice Ac fx.length cc, .slice Ad anotherF.length cd, .slice Az ny.length cz, .slice Au ny.length cu]) rfl (by rfl) hz0 (by rfl) hbs HD.out (fun v hv => by
            simp only [List.mem_cons, List.not_mem_nil, or_false] at hv
            rcases hv with rfl | rfl | rfl | rfl | rfl
            · exact ⟨fx, OwnB.mono (w := W0) s1.out (by simp only [World.size_alloc, size_gr]; omega), hfl⟩
            · exact ⟨fx, OwnB.mono (w := W0) s2.out (by simp only [World.size_alloc, size_gr]; omega), hfl⟩
            · exact ⟨anotherF, OwnB.mono (w := W0) s3.out (by simp only [World.size_alloc, size_gr]; omega), by omega⟩
            · exact ⟨ny, OwnB.mono (w := W0) s4.out (by simp only [World.size_alloc, size_gr]; omega), by omega⟩
            · exact ⟨ny, OwnB.mono (w := W0) s5.out (by simp only [World.size_alloc, size_gr]; omega), by omega⟩) (by omega)).mono ?_); rintro en w7 ⟨rfl, hc7, hb7⟩; go_must (have HK7 := Lib.hid (fun (b o : Nat) (u : Value) (hn : ¬ InS _ b) (h : W0.cell? ⟨b, o, none⟩ = some u) => chg_cell hc7 (cell_later (w := W0) (by (repeat (first | exact Below.refl _ _ | refine bg_al ?_ | refine bg_gr ?_ | refine bg_drn ?_ | refine bg_dr ?_ | assumption))) h) hn); have HB7 := Lib.hid (HB0.out.drew.trans hb7); clear hb7; have HAT7 := Lib.hid (at_of (at_bel HAT0.out (by (repeat (first | exact Below.refl _ _ | refine bg_al ?_ | refine bg_gr ?_ | refine bg_drn ?_ | refine bg_dr ?_ | assumption)))) hc7.size (fun k hk => hc7.block k (by have h1 := HAT0.out.1; have h2 := hk.2; simp only [World.size_alloc, World.size_drew]; omega) (HNot.out k (.inl (by have h2 := hk.2; omega))))); clear hc7))
        | (go_at_call 39; refine (marked_any (HIT.out w7 HAT7.out) _ (by (repeat (first | exact Below.refl _ _ | refine bg_al ?_ | refine bg_gr ?_ | refine bg_drn ?_ | refine bg_dr ?_ | assumption))) (marks_agr HITw.out HMK.out (by simpa only [World.size_alloc, size_gr] using HAT7.out))).mono ?_; rintro en w8 ⟨rfl, hb8⟩; obtain ⟨D21, rfl⟩ := gr_of_below hb8; clear hb8)
        | (go_at_call 28; refine (items_same (hitA.kept (Below.refl _ _)) _ T _ _ _ x _ (Below.refl _ _) (HX.out.kept (bel_trans (a := w7) HB7.out (by (repeat (first | exact Below.refl _ _ | refine bg_al ?_ | refine bg_gr ?_ | refine bg_drn ?_ | refine bg_dr ?_ | assumption)))))).mono ?_; rintro en w8 ⟨rfl, hb8⟩; have hsm : sameI x x = true := sameI_eq.2 rfl; rw [hsm]; obtain ⟨D20, rfl⟩ := gr_of_below hb8; clear hb8)
        | (go_at_call 29; refine (back_any (HIT.out w7 HAT7.out) _ (by (repeat (first | exact Below.refl _ _ | refine bg_al ?_ | refine bg_gr ?_ | refine bg_drn ?_ | refine bg_dr ?_ | assumption))) (by omega)).mono ?_; rintro en w6 ⟨q0, q1, q2, svA, rfl, hitA, -, hb6⟩; obtain ⟨D19, rfl⟩ := gr_of_below hb6; obtain ⟨l7, A7, n7, c7, A8, n8, c8, rfl, rfl, rfl⟩ := hitA.form; clear hb6))
    go_wp2_with fail
    go_ret
    exact ⟨rfl, bel_trans HB7.out (by (repeat (first | exact Below.refl _ _ | refine bg_al ?_ | refine bg_gr ?_ | refine bg_drn ?_ | refine bg_dr ?_ | assumption)))⟩
end Go.Proofs.Ytdhkhdeblkbojaa
