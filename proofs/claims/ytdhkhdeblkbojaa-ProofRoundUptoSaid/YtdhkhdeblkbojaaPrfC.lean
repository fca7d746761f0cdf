/- The walk of cairnlaw15.ProofUnpacks. The walk of cairnlaw15.ProofRound. -/
import Derived.Test.YtdhkhdeblkbojaaPrfB
set_option linter.unusedSimpArgs false
namespace Go.Proofs.Ytdhkhdeblkbojaa
open Go.RowKit
attribute [local go_sem ↓] Go.wp_at_zero Go.wp_at_succ
attribute [local go_sem] size_gr cell_gr frozen_gr setCell_gr gr_drew gr_drewN lt_k lt_kc le_k le_kc sub_kc

theorem unpR_small (b : List UInt8) : (unpR b).1.length ≤ 131072 ∧ ∀ l ∈ (unpR b).1, l.length ≤ 131072 := by
  rcases unpR_code b with h | h
  · have hu : unpR b = ((unpR b).1, 0) := by rw [← h]
    have hp := unp_pack hu
    unfold packR at hp
    split at hp
    · rename_i hc
      have := (body_len hc.1).2
      refine ⟨by omega, fun l hl => ?_⟩
      have := tot_len hl
      omega
    · injection hp with _ hp; simp at hp
  · rw [h]; simp
theorem NewLs.chg {S : Nat → Prop} {w w' w'' : World} {A : Option Addr} {c : Nat} {vs : List Value} {ls : List (List UInt8)} (h : NewLs w w' A c vs ls) (hc : Chg S w' w'') (hs : ∀ k, S k → k < w.heap.size) : NewLs w w'' A c vs ls := by
  have ho : ∀ i (hi : i < vs.length), OwnB w'' w.heap.size vs[i] (ls[i]'(h.rd.len ▸ hi)) := fun i hi => own_chg (h.own i hi) hc (fun k hk hS => by have := own_ge (h.own i hi) k hk; have := hs k hS; omega)
  exact ⟨⟨h.rd.len, h.rd.rd.chg hc (fun a ha hS => by have := (h.apart a ha).1; have := hs _ hS; omega), fun i hi => (ho i hi).sb⟩, ho, h.dist, h.apart, h.cap⟩
theorem NewLs.below {w w' w'' : World} {A : Option Addr} {c : Nat} {vs : List Value} {ls : List (List UInt8)} (h : NewLs w w' A c vs ls) (hb : Below w'.heap.size w' w'') : NewLs w w'' A c vs ls :=
  h.chg (Below.chg (fun _ => False) hb) (fun _ h => h.elim)
theorem NewLs.ins {w w' : World} {A : Option Addr} {c : Nat} {vs : List Value} {ls : List (List UInt8)} (h : NewLs w w' A c vs ls) : ∀ k, InS vs k → w.heap.size ≤ k ∧ k < w'.heap.size := fun k ⟨i, hi, hb⟩ => (h.own i hi).lt k hb
/-- Apart over such a list -/
theorem apart_new {w w' W : World} {A : Option Addr} {c : Nat} {vs : List Value} {ls : List (List UInt8)} (h : NewLs w W A c vs ls) (hle : w.heap.size ≤ W.heap.size) (hn : ls.length ≤ 1099511627776) (hl : ∀ l ∈ ls, l.length ≤ 1099511627776) (_hw : w' = W) :
    Calls Try.prog 20 #[.slice A ls.length c] W fun e w' => e = .returned (.bool true) ∧ Chg (InS vs) W w' := by
  rw [← h.rd.len]
  refine apart_any A c vs (fun i => if hi : i < ls.length then ls[i] else []) w.heap.size W h.rd.rd (fun a ha => (h.apart a ha).2) (fun i hi => ?_) h.dist hle (by rw [h.rd.len]; exact hn) (fun i hi => ?_)
  · dsimp only
    rw [dif_pos (by rw [← h.rd.len]; exact hi)]
    exact h.own i hi
  · rw [dif_pos (by rw [← h.rd.len]; exact hi)]
    exact hl _ (List.getElem_mem _)

set_option maxRecDepth 100000 in
set_option maxHeartbeats 8000000 in
theorem unpacks_walk (vb : Value) (b : List UInt8) (w : World) (hb : SB w vb b) (hl : b.length ≤ 1048576) :
    Calls Try.prog 12 #[vb] w fun e w' => e = .returned (.bool true) ∧ Below w.heap.size w w' := by
  have HB := Lib.hid hb
  have HC1 := Lib.hid (roomy3_any vb b w hb (by omega))
  obtain ⟨A, cb, rfl, -⟩ := hb
  have HSm := Lib.hid (unpR_small b)
  go_enter Try.func12, Try.ntmps12
  go_wp2_with fail
  refine HC1.out.mono ?_
  rintro en w1 ⟨A1, c1, rfl, ho1, hb1⟩
  have HRoom : Hid (RoomS w1 w.heap.size (.slice A1 b.length c1) b) := ⟨A1, c1, rfl, ho1⟩
  have HF1 := Lib.hid ho1
  have HB1 := Lib.hid hb1
  have hs1 := hb1.size
  have HC2 := Lib.hid (unpack_proof _ b w1 (HRoom.out.sb) (by omega))
  clear ho1 hb1 HC1
  go_wp2_with fail
  refine HC2.out.mono ?_
  rintro en w2 ⟨A2, c2, vs2, rfl, hn2, hb2⟩
  have HN2 := Lib.hid hn2
  have HB2 := Lib.hid hb2
  have hs2 := hb2.size
  have HB02 := Lib.hid (HB1.out.trans (hb2.mono hs1))
  have hc3 := refunpack_any _ b w2 (HB.out.below HB02.out) (by omega)
  rw [unp_ref] at hc3
  have HC3 := Lib.hid hc3
  clear hn2 hb2 hc3 HC2
  go_wp2_with fail
  refine HC3.out.mono ?_
  rintro en w3 ⟨A3, c3, vs3, rfl, hn3, hb3⟩
  have hsm1 := HSm.out.1
  obtain ⟨rl, rc, hr⟩ : ∃ rl rc, unpR b = (rl, rc) := ⟨_, _, rfl⟩
  have HN3 := Lib.hid hn3
  rw [hr] at HN2 HN3 HSm hsm1 ⊢
  simp only at hsm1
  replace HN2 : Hid (NewLs w1 w2 A2 c2 vs2 rl) := HN2.out
  replace HN3 : Hid (NewLs w2 w3 A3 c3 vs3 rl) := HN3.out
  replace HSm : Hid (∀ l ∈ rl, l.length ≤ 131072) := HSm.out.2
  have HB3 := Lib.hid hb3
  have hs3 := hb3.size
  have HRR := Lib.hid hr
  clear hn3 hb3 hr HC3
  have hsame := psame_any (cA := c2) (cB := c3) w3 (HN2.out.rd.below HB3.out) HN3.out.rd (by omega) (by omega)
  rw [decide_eq_true rfl] at hsame
  have HSame := Lib.hid hsame
  clear hsame
  go_wp2_with (first
    | (go_at_call 43; refine (num_any _ _).mono ?_; rintro en w9 ⟨rfl, rfl⟩)
    | (go_at_call 49; refine HSame.out.mono ?_; rintro en w4 ⟨rfl, hb4⟩))
  have HB4 := Lib.hid hb4
  have hs4 := hb4.size
  have HB14 := Lib.hid ((HB2.out.trans (HB3.out.mono hs2)).trans (hb4.mono (by omega)))
  clear hb4 HSame
  refine (aswas_any _ b w4 (HF1.out.sb.below HB14.out) (HB.out.below (HB1.out.trans (HB14.out.mono hs1))) (by omega)).mono ?_
  rintro en w5 ⟨rfl, hb5⟩
  have HB15 := Lib.hid (HB14.out.trans (hb5.mono (by omega)))
  have HB35 := Lib.hid (HB4.out.trans (hb5.mono (by omega)))
  have hs5 := hb5.size
  clear hb5
  have hc6 := unpack_proof _ b w5 ((HRoom.out.below HB15.out).sb) (by omega)
  rw [HRR.out] at hc6
  have HC6 := Lib.hid hc6
  clear hc6
  go_wp2_with fail
  refine HC6.out.mono ?_
  rintro en w6 ⟨A6, c6, vs6, rfl, hn6, hb6⟩
  have HN6 : Hid (NewLs w5 w6 A6 c6 vs6 rl) := hn6
  have hs6 := hb6.size
  have HB16 := Lib.hid (HB15.out.trans (hb6.mono (by omega)))
  have HB36 := Lib.hid (HB35.out.trans (hb6.mono (by omega)))
  have HB26 := Lib.hid (HB3.out.trans (HB36.out.mono hs3))
  clear hn6 hb6 HC6
  have HAp := Lib.hid (apart_new (W := w6) (HN2.out.below HB26.out) (by omega) (by omega) (fun l hl => by have := HSm.out l hl; omega) rfl)
  go_wp2_with fail
  refine HAp.out.mono ?_
  rintro en w7 ⟨rfl, hc7⟩
  have hin := HN2.out.ins
  have HB17 := Lib.hid (HB16.out.trans (hc7.bel (B := w1.heap.size) (fun k hk => (hin k hk).1) (by omega)))
  have HN6' := Lib.hid (HN6.out.chg hc7 (fun k hk => by have := (hin k hk).2; omega))
  have HN3' := Lib.hid ((HN3.out.below HB36.out).chg hc7 (fun k hk => (hin k hk).2))
  have hs7 := hc7.size
  clear hc7 hin
  have HW8 := Lib.hid (aswas_any _ b w7 (HF1.out.sb.below HB17.out) (HB.out.below (HB1.out.trans (HB17.out.mono hs1))) (by omega))
  go_wp2_with fail
  refine HW8.out.mono ?_
  rintro en w8 ⟨rfl, hb8⟩
  have hsame := psame_any (cA := c6) (cB := c3) w8 ((HN6'.out.below hb8).rd) ((HN3'.out.below hb8).rd) (by omega) (by omega)
  rw [decide_eq_true rfl] at hsame
  have HSame := Lib.hid hsame
  have HB18 := Lib.hid (HB17.out.trans (hb8.mono (by omega)))
  have hs8 := hb8.size
  clear hsame hb8
  go_wp2_with (first
    | (go_at_call 49; refine HSame.out.mono ?_; rintro en w9 ⟨rfl, hb9⟩)
    | (go_at_call 45; refine (known_any _).mono ?_; rintro en w10 ⟨rfl, hb10⟩))
  go_ret
  have hs9 := hb9.size
  exact ⟨rfl, HB1.out.trans (((HB18.out.trans (hb9.mono (by omega))).trans (hb10.mono (by omega))).mono hs1)⟩
end Go.Proofs.Ytdhkhdeblkbojaa
set_option linter.unusedSimpArgs false
namespace Go.Proofs.Ytdhkhdeblkbojaa
open Go.RowKit
attribute [local go_sem ↓] Go.wp_at_zero Go.wp_at_succ
attribute [local go_sem] size_gr cell_gr frozen_gr setCell_gr gr_drew gr_drewN lt_k lt_kc le_k le_kc sub_kc

set_option maxRecDepth 100000 in
set_option maxHeartbeats 8000000 in
theorem pround_walk {A : Option Addr} {cA : Nat} {vs : List Value} {ls : List (List UInt8)} (vb : Value) (raw : List UInt8) (w : World) (h : SLs w A vs ls) (hn : ls.length ≤ 1048576) (hl : ∀ l ∈ ls, l.length ≤ 1048576) (hb : SB w vb raw) (hbl : raw.length ≤ 1048576) :
    Calls Try.prog 13 #[.slice A ls.length cA, vb] w fun e w' => e = .returned (.bool true) ∧ Below w.heap.size w w' := by
  have HS := Lib.hid h
  have HB := Lib.hid hb
  have HC1 := Lib.hid (pack_proof (cA := cA) w h (by omega) (fun l hx => by have := hl l hx; omega))
  obtain ⟨Ar, cr, rfl, -⟩ := hb
  clear h hl
  have hpl := packR_len ls
  obtain ⟨pl, pc, hpk⟩ : ∃ pl pc, packR ls = (pl, pc) := ⟨_, _, rfl⟩
  have hpc : (pc = 0 ∧ unpR pl = (ls, 0)) ∨ (pc = 2 ∧ pl = []) := by
    have h2 := hpk
    unfold packR at h2
    split at h2
    · injection h2 with h3 h4
      subst h4
      exact .inl ⟨rfl, (unp_ok hpk).1⟩
    · injection h2 with h3 h4
      exact .inr ⟨h4.symm, h3.symm⟩
  have HPc := Lib.hid hpc
  rw [hpk] at hpl
  simp only at hpl
  have HPk := Lib.hid hpk
  clear hpc hpk
  go_enter Try.func13, Try.ntmps13
  go_wp2_with fail
  refine HC1.out.mono ?_
  rintro en w1 ⟨A1, c1, rfl, ho1, hb1⟩
  rw [HPk.out] at ho1 ⊢
  obtain ⟨D1, rfl⟩ := gr_of_below hb1; clear hb1
  have HO1 : Hid (OwnG w.heap.size D1 (.slice A1 pl.length c1) pl) := ownG ho1
  clear ho1
  go_upto_if 20 with ((go_at_call 43; refine (num_any _ _).mono ?_; rintro en w9 ⟨rfl, rfl⟩))
  go_cut [] (fun wx => ∃ D, wx = w.gr D)
  case first =>
    rcases HPc.out with ⟨rfl, hu⟩ | ⟨rfl, rfl⟩
    · have hu' : ∀ W v, SB W v pl → Calls Try.prog 47 #[v] W (UnpPost W (ls, 0)) := fun W v hs => by
        have := unpack_proof v pl W hs (by omega)
        rwa [hu] at this
      have HU := Lib.hid hu'
      clear hu hu'
      go_wp2_with (first
        | (at_builtin; refine ap_e (w.heap.size + D1.k) pl pl.length rfl rfl rfl rfl rfl (by (repeat (first | (refine blk_new ?_; first | rfl | (simp only [World.size_alloc, size_gr, World.size_setCell, World.size_drew]; done) | (simp only [World.size_alloc, size_gr, World.size_setCell, World.size_drew]; omega) | omega) | refine blk_dr ?_ | refine blk_drn ?_ | refine blk_al (by simp only [World.size_alloc, size_gr, World.size_setCell, World.size_drew]; omega) ?_ | refine blk_gr (by simp only [World.size_alloc, size_gr, World.size_setCell, World.size_drew]; omega) ?_ | assumption))) (Nat.le_refl _) (by rfl) ((HO1.out.own _ (by (repeat (first | (refine at_base ?_; simp only [World.size_alloc, size_gr, World.size_setCell, World.size_drew]; done) | (refine at_base ?_; rfl) | refine at_al ?_ | refine at_gr ?_ | refine at_drn ?_ | refine at_dr ?_ | assumption)))).sb) (by omega) ?_; intro D2 A2 c2 ho2 hk2 hc2 hm2; clear hk2)
        | (go_at_call 47; refine (HU.out _ _ ho2.sb).mono ?_; rintro en w3 ⟨A3, c3, vs3, rfl, hn3, hb3⟩; obtain ⟨D3, rfl⟩ := gr_of_below hb3; clear hb3 ho2)
        | (go_at_call 43; refine (num_any _ _).mono ?_; rintro en w9 ⟨rfl, rfl⟩))
      have hsame := psame_any (cA := c3) (cB := cA) _ hn3.rd (HS.out.below (by (repeat (first | exact Below.refl _ _ | refine bg_al ?_ | refine bg_gr ?_ | refine bg_drn ?_ | refine bg_dr ?_ | assumption)))) (by omega) (by omega)
      rw [decide_eq_true rfl] at hsame
      refine hsame.mono ?_
      rintro en w4 ⟨rfl, hb4⟩
      obtain ⟨D4, rfl⟩ := gr_of_below hb4; clear hb4 hsame hn3
      go_wp2_with fail
      go_meet
      case rel => exact gr_of_below (by (repeat (first | exact Below.refl _ _ | refine bg_al ?_ | refine bg_gr ?_ | refine bg_drn ?_ | refine bg_dr ?_ | assumption)))
    · go_wp2_with (go_at_call 43; refine (num_any _ _).mono ?_; rintro en w9 ⟨rfl, rfl⟩)
      go_meet
      case rel => exact ⟨_, rfl⟩
  case rest =>
    obtain ⟨D5, rfl⟩ := hcut
    have hU := unpack_proof _ raw (w.gr D5) (HB.out.below (by (repeat (first | exact Below.refl _ _ | refine bg_al ?_ | refine bg_gr ?_ | refine bg_drn ?_ | refine bg_dr ?_ | assumption)))) (by omega)
    obtain ⟨rl, rc, hr⟩ : ∃ rl rc, unpR raw = (rl, rc) := ⟨_, _, rfl⟩
    have hrc : (rc = 0 ∧ packR rl = (raw, 0)) ∨ (rc = 160 ∧ rl = []) := by
      rcases unpR_code raw with h | h
      · rw [hr] at h
        simp only at h
        subst h
        exact .inl ⟨rfl, unp_pack hr⟩
      · rw [hr] at h
        injection h with h1 h2
        exact .inr ⟨h2, h1⟩
    have hsm := unpR_small raw
    rw [hr] at hU hsm
    obtain ⟨hsm1, hsm2⟩ := hsm
    have HU := Lib.hid hU
    have HSm := Lib.hid hsm2
    have HRc := Lib.hid hrc
    simp only at hsm1
    clear hU hr hrc hsm2
    go_wp2_with fail
    refine HU.out.mono ?_
    rintro en w6 ⟨A6, c6, vs6, rfl, hn6, hb6⟩
    obtain ⟨D6, rfl⟩ := gr_of_below hb6; clear hb6
    have HN6 := Lib.hid hn6
    clear hn6
    rcases HRc.out with ⟨rfl, hp⟩ | ⟨rfl, rfl⟩
    · have HC7 := pack_proof (cA := c6) _ HN6.out.rd (by simp only; omega) (fun l hx => by have := HSm.out l hx; omega)
      unfold PackPost at HC7
      simp only at HC7
      rw [hp] at HC7
      have HC7' := Lib.hid HC7
      clear HC7 hp
      go_wp2_with (first
        | (go_at_call 43; refine (num_any _ _).mono ?_; rintro en w9 ⟨rfl, rfl⟩)
        | (go_at_call 41; refine HC7'.out.mono ?_; rintro en w7 ⟨A7, c7, rfl, ho7, hb7⟩; have hcv1 := convS ho7.sb; have hcv2 := conv_any (w := w7) cr (show RdB w7 Ar raw by (obtain ⟨A', c', e, hr, -⟩ := HB.out.below (bel_trans (show Below w.heap.size w ((w.gr D5).gr D6) by (repeat (first | exact Below.refl _ _ | refine bg_al ?_ | refine bg_gr ?_ | refine bg_drn ?_ | refine bg_dr ?_ | assumption))) hb7); injection e with e1 e2 e3; subst e1; exact hr)); obtain ⟨D7, rfl⟩ := gr_of_below hb7; clear hb7 ho7)
        | (go_at_call 45; refine (known_any _).mono ?_; rintro en w10 ⟨rfl, hb10⟩; obtain ⟨D10, rfl⟩ := gr_of_below hb10; clear hb10))
      go_ret
      exact ⟨rfl, by (repeat (first | exact Below.refl _ _ | refine bg_al ?_ | refine bg_gr ?_ | refine bg_drn ?_ | refine bg_dr ?_ | assumption))⟩
    · go_wp2_with (first
        | (go_at_call 43; refine (num_any _ _).mono ?_; rintro en w9 ⟨rfl, rfl⟩)
        | (go_at_call 45; refine (known_any _).mono ?_; rintro en w10 ⟨rfl, hb10⟩; obtain ⟨D10, rfl⟩ := gr_of_below hb10; clear hb10))
      go_ret
      exact ⟨rfl, by (repeat (first | exact Below.refl _ _ | refine bg_al ?_ | refine bg_gr ?_ | refine bg_drn ?_ | refine bg_dr ?_ | assumption))⟩
end Go.Proofs.Ytdhkhdeblkbojaa
