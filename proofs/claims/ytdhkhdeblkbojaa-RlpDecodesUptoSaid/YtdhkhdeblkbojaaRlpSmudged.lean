/- cairnlaw05.smudged: strings that are own rows, no two in one, share no room. -/
import Derived.Test.YtdhkhdeblkbojaaRlpSmudge
set_option linter.unusedSimpArgs false
namespace Go.Proofs.Ytdhkhdeblkbojaa
open Go.RowKit
attribute [local go_sem ↓] Go.wp_at_zero Go.wp_at_succ
attribute [local go_sem] size_gr cell_gr frozen_gr setCell_gr gr_drew gr_drewN lt_k lt_kc le_k le_kc sub_kc

set_option maxRecDepth 100000 in
set_option maxHeartbeats 16000000 in
theorem smudged_any {w : World} {T : Nat → Prop} {A : Option Addr} {cA : Nat} {E : List Ent} {vs : List Value} {f : Nat → List UInt8} {base : Nat} (hvs : vs = E.flatMap (·.sv))
    (h4 : ∀ a, A = some a → T a.block) (h5 : Src w 3 (.slice A E.length cA) E.length (E.flatMap Ent.cells)) (h6 : ∀ e ∈ E, RdI w T e.v0 e.v1 e.v2 e.x e.sv) (hT : ∀ k, T k → k < w.heap.size) (_hc : cA ≤ maxLen)
    (hF : OwnF w base vs f) (hD : Dist vs) (hbase : base ≤ w.heap.size) (hwt : wtL (E.map (·.x)) ≤ 1099511627776) (hf : ∀ i, i < vs.length → (f i).length ≤ 1099511627776) :
    Calls Try.prog 33 #[.slice A E.length cA] w fun e w' => e = .returned (.bool true) ∧ Chg (InS vs) w w' := by
  have HE := Lib.hid (fun (W' : World) i (hb : ∀ k, T k → W'.heap[k]? = w.heap[k]?) hi => ent_full (h5.agr h4 hb) (fun e he => (h6 e he).agr hb) (i := i) (Below.refl W'.heap.size W') hi)
  have HIt := Lib.hid (fun i (hi : i < E.length) => h6 E[i] (List.getElem_mem hi))
  have HFs := Lib.hid (fun i (hi : i < E.length) => flat_snoc E hi)
  have HTot := Lib.hid (tot_wt E (fun e he => sv_wt (h6 e he)))
  have hvl : vs.length ≤ wtL (E.map (·.x)) := by
    rw [hvs]
    have := HTot.out
    by_cases h0 : E.length = 0
    · have : E = [] := List.eq_nil_of_length_eq_zero h0
      subst this
      simp
    · have h1 := this (E.length - 1) (by omega)
      have h2 := sv_wt (h6 E[E.length - 1] (List.getElem_mem (by omega)))
      have h3 := flat_snoc E (i := E.length - 1) (by omega)
      rw [show E.length - 1 + 1 = E.length by omega, List.take_length] at h3
      rw [h3, List.length_append]
      omega
  have hel : E.length ≤ 1099511627776 := by have := len_wt (E.map (·.x)); rw [List.length_map] at this; omega
  have HT := Lib.hid hT
  have HVs := Lib.hid hvs
  have HF := Lib.hid hF
  have HD := Lib.hid hD
  have Hf := Lib.hid hf
  have HLt : Hid (∀ i (hi : i < vs.length) g, vs[i].ownBlock = some g → g < w.heap.size) := by show ∀ i, _; exact fun i hi g hg => ((hF i hi).lt g hg).2
  have hvl2 : vs.length ≤ 1099511627776 := by omega
  clear hvs h4 h5 h6 hT hF hD hf
  go_enter Try.func33, Try.ntmps33
  go_wp2_with fail
  go_loopw [3, 17] (fun v0 v wr => ∃ (i : Nat) (vs' : List Value), i ≤ E.length ∧ v = .int .i64 i ∧ vs' = (E.take i).flatMap (·.sv) ∧ wr.ownsRow w.heap.size 22 1 v0 vs'.length vs' ∧ Below w.heap.size w wr) (fun _ v _ => E.length - (intOf v).toNat)
  case atStart => exact ⟨0, [], by omega, rfl, rfl, own_nil _ _ _ _, by (repeat (first | exact Below.refl _ _ | refine bg_al ?_ | refine bg_gr ?_ | refine bg_drn ?_ | refine bg_dr ?_ | assumption))⟩
  case round =>
    obtain ⟨i, vs', hi, rfl, hvs', hrow, hbel⟩ := hrel
    have HVs' := Lib.hid hvs'
    have HRow := Lib.hid hrow
    have HBel := Lib.hid hbel
    have hws := hbel.size
    clear hvs' hrow hbel
    by_cases hi1 : i < E.length
    · obtain ⟨b, off, l2, A5, n5, c5, A6, n6, c6, rfl, e0, e1, e2, f0, f1, f2, hbw⟩ := HE.out wr i (fun k hk => HBel.out.block k (HT.out k hk)) hi1
      have h1i : (i : Int) < (E.length : Int) := by omega
      have hi0 : (0 : Int) ≤ (i : Int) := by omega
      have hit := HIt.out i hi1
      rw [f0, f1, f2] at hit
      have HC := Lib.hid hit
      have hlen : vs'.length + wtI E[i].x ≤ 1099511627776 := by have := HTot.out i hi1; rw [HVs'.out]; omega
      clear f0 f1 f2 hit
      go_wp2_with fail
      refine (gather_any HC.out _ w.heap.size _ vs' (fun k hk => (Below.heap_alloc wr _ k (by have := HT.out k hk; omega)).trans (HBel.out.block k (HT.out k hk))) HT.out (by simp only [World.size_alloc]; omega) (own_below HRow.out (by (repeat (first | exact Below.refl _ _ | refine bg_al ?_ | refine bg_gr ?_ | refine bg_drn ?_ | refine bg_dr ?_ | assumption)))) hlen).mono ?_
      rintro en w9 ⟨V', rfl, hrow9, hchg9, -⟩
      have HRow9 := Lib.hid hrow9
      have HBel9 := Lib.hid ((HBel.out.alloc HBel.out.size _).trans (hchg9.bel (B := w.heap.size) (fun k hk => own_ge HRow.out k hk) (by simp only [World.size_alloc]; omega)))
      clear hrow9 hchg9
      go_wp2_with fail
      exact ⟨⟨i + 1, _, by omega, by go_num, by rw [HVs'.out, HFs.out i hi1], HRow9.out, HBel9.out⟩, by simp [intOf]; omega⟩
    · obtain rfl : i = E.length := by omega
      have h1i : ¬ (E.length : Int) < (E.length : Int) := by omega
      have e := HVs'.out
      rw [List.take_length, ← HVs.out] at e
      subst e
      obtain ⟨A3, c3, rfl, hR3, hc3, hm3, hb3⟩ := RdV.own HRow.out
      unfold maxLen at hm3
      have hAS : ∀ a, A3 = some a → ¬ InS vs' a.block := fun a ha ⟨i, hi, hb⟩ => by
        have h1 := HLt.out i hi _ hb
        have h2 := own_ge HRow.out _ (hb3 a ha)
        omega
      have HAS := Lib.hid hAS
      have HR3 := Lib.hid hR3
      have HF1 := Lib.hid (fun i hi => own_below (HF.out i hi) HBel.out)
      clear hR3 hb3 hAS HVs' HVs HFs HTot HIt HE
      obtain ⟨w1, rfl⟩ : ∃ w1 : World, w1 = wr := ⟨_, rfl⟩
      have HPat : Hid (∀ i j : Nat, (((pb i j).toNat : Nat) : Int) = IntKind.u8.wrap (37 * (i : Int) + (j : Int))) := by show ∀ i, _; exact pb_val
      go_wp2_with fail
      go_loopw [27] (fun i wr => ∃ k : Nat, k ≤ vs'.length ∧ i = .int .i64 k ∧ OwnF wr base vs' (fun i => if i < k then pat f i else f i) ∧ Chg (InS vs') w1 wr) (fun i _ => vs'.length - (intOf i).toNat)
      case atStart => exact ⟨0, by omega, rfl, OwnF.congr HF1.out (fun i _ => by simp), Chg.refl _ _⟩
      case round =>
        obtain ⟨k, hk, rfl, hown, hchg⟩ := hrel
        by_cases h1 : k < vs'.length
        · have hb1 : (k : Int) < (vs'.length : Int) := by omega
          have HW := Lib.hid hown
          obtain ⟨b3, o3, rfl, hcell0⟩ := (HR3.out.chg hchg HAS.out) k h1
          have hok0 := hown k h1
          simp only [Nat.lt_irrefl, if_false] at hok0
          obtain ⟨Ak, ck, hvk0, -, hck, hmk, -⟩ := hok0.form
          rw [hvk0] at hcell0
          have HVK := Lib.hid hvk0
          have hlim := Hf.out k h1
          unfold maxLen at hmk
          clear hown hok0 hvk0
          go_wp2_with fail
          go_loopw [35] (fun j wr => ∃ c : Nat, c ≤ (f k).length ∧ j = .int .i64 c ∧ OwnF wr base vs' (fun i => if i < k then pat f i else if i = k then (List.range c).map (pb k) ++ (f k).drop c else f i) ∧ Chg (InS vs') w1 wr) (fun j _ => (f k).length - (intOf j).toNat)
          case atStart => exact ⟨0, by omega, rfl, HW.out.congr (fun i _ => by by_cases e : i < k <;> by_cases e' : i = k <;> simp [e, e']), hchg⟩
          case round =>
            obtain ⟨c, hc, rfl, hown, hchg'⟩ := hrel
            have HW' := Lib.hid hown
            obtain ⟨b, off, heq, hcell⟩ := (HR3.out.chg hchg' HAS.out) k h1
            injection heq with heq
            injection heq with q1 q2
            subst q1 q2
            have hok := hown k h1
            simp only [Nat.lt_irrefl, if_false, if_true] at hok
            have hlk : ((List.range c).map (pb k) ++ (f k).drop c).length = (f k).length := by simp; omega
            obtain ⟨A2, c2, hv2, hrk, -⟩ := hok.form
            rw [hlk] at hv2
            have hvk := HVK.out
            rw [hvk] at hcell hv2
            injection hv2 with q1 _ q3
            subst q1 q3
            by_cases h2 : c < (f k).length
            · obtain ⟨g, o, rfl, hcc0⟩ := hrk c (by rw [hlk]; exact h2)
              have ho : o = 0 := by
                rcases hok.2 with ⟨e, _⟩ | ⟨g', cap', cur', e, _⟩
                · rw [hvk] at e; cases e
                · rw [hvk] at e; injection e with e; injection e with e; injection e
              subst ho
              simp only [Nat.zero_add] at hcc0
              obtain ⟨old, hcc⟩ : ∃ u, wr.cell? ⟨g, c, none⟩ = some u := ⟨_, hcc0⟩
              have hfz : wr.frozen? ⟨g, c, none⟩ = false := by rw [hvk] at hok; exact hok.unfrozen c
              have hst := OwnF.store hown HD.out h1 (g := g) (c := ck) (by simp only [Nat.lt_irrefl, if_false, if_true]; rw [hlk]; exact hvk) c (pb k c)
              rw [pb_bv] at hst
              have HST := Lib.hid hst
              have hS : InS vs' g := ⟨k, h1, by rw [hvk]; rfl⟩
              have HL := Lib.hid hlk
              clear hcc0 hrk hst hown hok hlk
              have hb2 : (c : Int) < ((f k).length : Int) := by omega
              have hb0 : (0 : Int) ≤ (c : Int) := by omega
              have hb0' : (0 : Int) ≤ (k : Int) := by omega
              clear hvk
              go_wp2
              refine ⟨⟨c + 1, by omega, by go_num, HST.out.congr (fun i hi => ?_), hchg'.setCell hS _⟩, by simp [intOf]; omega⟩
              by_cases e : i = k
              · subst e
                simp only [Nat.lt_irrefl, if_false, if_true]
                exact set_pat i (f i) c h2
              · simp [e]
            · have hck' : c = (f k).length := by omega
              have HL := Lib.hid hlk
              have HV := Lib.hid hvk
              clear hvk hok hown hlk
              have hb0' : (0 : Int) ≤ (k : Int) := by omega
              go_wp2
              refine ⟨⟨k + 1, by omega, by go_num, HW'.out.congr (fun i hi => ?_), hchg'⟩, by simp [intOf]; omega⟩
              by_cases e : i = k
              · subst e
                simp [pat, hck']
              · by_cases e' : i < k
                · simp [e', show i < k + 1 by omega]
                · simp [e, e', show ¬ i < k + 1 by omega]
        · have hkm : k = vs'.length := by omega
          subst hkm
          have HW := Lib.hid (hown.congr (f' := pat f) (fun i hi => by simp [hi]))
          have HC1 := Lib.hid hchg
          have hwz := hchg.size
          clear hown hchg
          have h1i : ¬ (vs'.length : Int) < (vs'.length : Int) := by omega
          go_wp2_with fail
          have hB2 : Below wr.heap.size wr (wr.alloc (.cells #[.int .u8 17, .int .u8 238] 5)) := by (repeat (first | exact Below.refl _ _ | refine bg_al ?_ | refine bg_gr ?_ | refine bg_drn ?_ | refine bg_dr ?_ | assumption))
          have hG := heap_alloc_new wr (.cells #[.int .u8 17, .int .u8 238] 5)
          have hGn : w.heap.size ≤ wr.heap.size := by omega
          generalize wr.alloc (.cells #[.int .u8 17, .int .u8 238] 5) = w2 at hB2 hG ⊢
          generalize wr.heap.size = G at hG hGn ⊢
          have HO2 := Lib.hid (fun i hi => own_below (HW.out i hi) hB2)
          have HC2 := Lib.hid ((Below.chg (InS vs') HBel.out).trans (HC1.out.trans (Below.chg _ hB2)))
          have HR2 := Lib.hid ((HR3.out.chg HC1.out HAS.out).chg (Below.chg (InS vs') hB2) HAS.out)
          have hG0 : w2.cell? ⟨G, 0, none⟩ = some (.int .u8 ((17 : Nat) : Int)) := cell_of_row w2 G 0 _ _ _ hG
          have hG1 : w2.cell? ⟨G, 1, none⟩ = some (.int .u8 ((238 : Nat) : Int)) := cell_of_row w2 G 1 _ _ _ hG
          have hGS : ¬ InS vs' G := fun ⟨i, hi, hb⟩ => by have := HLt.out i hi _ hb; omega
          have hw2 := HC2.out.size
          have HG0 := Lib.hid hG0
          have HG1 := Lib.hid hG1
          have HGS := Lib.hid hGS
          have HLt2 := Lib.hid (fun i (hi : i < vs'.length) g (hg : vs'[i].ownBlock = some g) => Nat.lt_of_lt_of_le (HLt.out i hi g hg) hw2)
          clear hB2 hG hG0 hG1 hGS hwz HW HC1 HR3 HF1
          go_loopw [53] (fun v wr => ∃ c : Nat, c ≤ 2 ∧ v = .int .i64 c ∧ OwnF wr base vs' (pat f) ∧ Chg (InS vs') w2 wr) (fun v _ => 2 - (intOf v).toNat)
          case atStart => exact ⟨0, by omega, rfl, HO2.out, Chg.refl _ _⟩
          case round =>
            obtain ⟨c, hc, rfl, hown, hchg⟩ := hrel
            have HO := Lib.hid hown
            have HC := Lib.hid hchg
            clear hown hchg
            by_cases h1 : c < 2
            · have h1i : (c : Int) < 2 := by omega
              have hi0 : (0 : Int) ≤ (c : Int) := by omega
              obtain ⟨m, hm, hcm⟩ : ∃ m : Nat, m < 256 ∧ wr.cell? ⟨G, c, none⟩ = some (.int .u8 (m : Int)) := by
                match c, h1 with
                | 0, _ => exact ⟨17, by omega, chg_cell HC.out HG0.out HGS.out⟩
                | 1, _ => exact ⟨238, by omega, chg_cell HC.out HG1.out HGS.out⟩
              go_wp2_with fail
              go_loopw [10, 59] (fun u v wr => ∃ (k : Nat) (xs : List Value), k ≤ vs'.length ∧ v = .int .i64 k ∧ xs.length = k ∧ OwnF wr base vs' (pat f) ∧ Chg (InS vs') w2 wr ∧ wr.ownsRow w2.heap.size 22 1 u k xs ∧ OwnF wr base xs (fun i => pat f i ++ List.replicate 64 (rb m i)) ∧ (∀ i (h : i < xs.length) g, xs[i].ownBlock = some g → (∃ h' : i < vs'.length, vs'[i].ownBlock = some g) ∨ w2.heap.size ≤ g)) (fun _ v _ => vs'.length - (intOf v).toNat)
              case atStart => exact ⟨0, [], by omega, rfl, rfl, HO.out, HC.out, own_nil _ _ _ _, fun i h => by simp at h, fun i h => by simp at h⟩
              case round =>
                obtain ⟨k, xs, hk, rfl, hxl, hown, hchg, hrow, hxs, hxb⟩ := hrel
                by_cases h2 : k < vs'.length
                · have hb1 : (k : Int) < (vs'.length : Int) := by omega
                  have hb0 : (0 : Int) ≤ (k : Int) := by omega
                  obtain ⟨b3, o3, rfl, hcell⟩ := (HR2.out.chg hchg HAS.out) k h2
                  obtain ⟨Ak, ck, hvk, -, hck, hmk, -⟩ := (hown k h2).form
                  rw [pat_len] at hvk hck
                  rw [hvk] at hcell
                  have hk1 := hown k h2
                  rw [hvk] at hk1
                  unfold OwnB at hk1
                  rw [pat_len] at hk1
                  have hlim := Hf.out k h2
                  unfold maxLen at hmk
                  have hne : ∀ g, (Value.slice Ak (f k).length ck).ownBlock = some g → g ≠ b3 := fun g hg e => HAS.out _ rfl ⟨k, h2, by rw [hvk, hg, e]⟩
                  have hxr := rb_val m k hm
                  have hb32 : b3 < w2.heap.size := by
                    obtain ⟨b, o, e, hx⟩ := HR2.out k h2
                    cases e
                    exact World.block_lt_of_cell? w2 _ hx
                  have HNe9 := Lib.hid (fun g (hg : u10.ownBlock = some g) => (show g ≠ b3 by have := own_ge hrow g hg; omega))
                  have HK1 := Lib.hid hk1
                  have HVK := Lib.hid hvk
                  have HNe := Lib.hid hne
                  have HO' := Lib.hid hown
                  have HC' := Lib.hid hchg
                  have HRow' := Lib.hid hrow
                  have HX := Lib.hid hxs
                  have HXB := Lib.hid hxb
                  have HXL := Lib.hid hxl
                  have hwr2 := hchg.size
                  have hblt := World.block_lt_of_cell? wr _ hcell
                  clear hown hchg hrow hxs hxb hxl hk1 hvk hne
                  go_upto_region 23 with (fail)
                  obtain ⟨wi, rfl⟩ : ∃ wi : World, wi = wr := ⟨_, rfl⟩
                  go_region_held3 (fun W => W.cell? ⟨b3, o3 + k, none⟩ = some (.slice Ak (f k).length ck))
                    (first | exact hcell | exact ap_cell hap9 HNe9.out (cell_later (w := w8) (by (repeat (first | exact Below.refl _ _ | refine bg_al ?_ | refine bg_gr ?_ | refine bg_drn ?_ | refine bg_dr ?_ | assumption))) (ap_cell hap8 HNe.out (cell_later (w := wi) (by (repeat (first | exact Below.refl _ _ | refine bg_al ?_ | refine bg_gr ?_ | refine bg_drn ?_ | refine bg_dr ?_ | assumption))) hcell))) | exact cell_later (w := w8) (by (repeat (first | exact Below.refl _ _ | refine bg_al ?_ | refine bg_gr ?_ | refine bg_drn ?_ | refine bg_dr ?_ | assumption))) (ap_cell hap8 HNe.out (cell_later (w := wi) (by (repeat (first | exact Below.refl _ _ | refine bg_al ?_ | refine bg_gr ?_ | refine bg_drn ?_ | refine bg_dr ?_ | assumption))) hcell)) | exact cell_later (by (repeat (first | exact Below.refl _ _ | refine bg_al ?_ | refine bg_gr ?_ | refine bg_drn ?_ | refine bg_dr ?_ | assumption))) hcell)
                    (first
                      | (go_at_call 61; refine (room_any (rb m k) _).mono ?_; rintro en w7 ⟨v7, rfl, ho7, hb7⟩; obtain ⟨A7, c7, hv7, -⟩ := ho7.form; rw [List.length_replicate] at hv7; subst hv7; obtain ⟨D7, rfl⟩ := gr_of_below hb7; have hs7 := ho7.sb.src; rw [List.length_replicate] at hs7; have HS7 := Lib.hid hs7; clear hs7 hb7 ho7)
                      | (have _t := hap8; refine step_ap (base := w2.heap.size) (v := u10) (xv := .slice (some ⟨w8.heap.size, 0, none⟩) 1 1) (n := k) (xs := xs) (m := 1) (news := [.slice (some ⟨g8, 0, none⟩) ((f k).length + 64) c8]) listsT (by rfl) (by rfl) (by rfl) (own_below R.out.2.2.2.1 (by (repeat (first | exact Below.refl _ _ | refine bg_al ?_ | refine bg_gr ?_ | refine bg_drn ?_ | refine bg_dr ?_ | assumption)))) (by rfl) (Src.block (cs := #[.slice (some ⟨g8, 0, none⟩) ((f k).length + 64) c8]) (t := 22) (fr := (0, 0)) (by (repeat (first | (refine blk_new ?_; first | rfl | (simp only [World.size_alloc, size_gr, World.size_setCell, World.size_drew]; done) | (simp only [World.size_alloc, size_gr, World.size_setCell, World.size_drew]; omega) | omega) | refine blk_dr ?_ | refine blk_drn ?_ | refine blk_al (by simp only [World.size_alloc, size_gr, World.size_setCell, World.size_drew]; omega) ?_ | refine blk_gr (by simp only [World.size_alloc, size_gr, World.size_setCell, World.size_drew]; omega) ?_ | assumption))) rfl) (one_single (u := .slice (some ⟨g8, 0, none⟩) ((f k).length + 64) c8) rfl) (by simp only [maxLen]; omega) (by omega) (by have := R.out.2.2.2.2.2.2; simp only [World.size_alloc, size_gr, World.size_drew]; omega) ?_; intro v9 w9 hap9)
                      | (refine step_ap (base := base) (v := .slice Ak (f k).length ck) (n := (f k).length) (xs := (pat f k).map bv) (m := 64) (news := (List.replicate 64 (rb m k)).map bv) bytesT (by rfl) (by rfl) (by rfl) (own_below HK1.out (by (repeat (first | exact Below.refl _ _ | refine bg_al ?_ | refine bg_gr ?_ | refine bg_drn ?_ | refine bg_dr ?_ | assumption)))) (by rfl) (HS7.out.below (by (repeat (first | exact Below.refl _ _ | refine bg_al ?_ | refine bg_gr ?_ | refine bg_drn ?_ | refine bg_dr ?_ | assumption)))) (bv_one _) (by simp only [maxLen]; omega) (by omega) (by simp only [World.size_alloc, size_gr, World.size_drew]; omega) ?_; intro v8 w8 hap8; obtain ⟨g8, c8, rfl, hc8, hm8, hb8, hlt8⟩ := own_form hap8.1 (by omega); have hap8' := hap8; rw [← List.map_append, ← HVK.out] at hap8'; have R := Lib.hid (smudge_step (l1 := List.replicate 64 (rb m k)) HLt2.out HD.out h2 hwr2 HX.out HXB.out HXL.out (by (repeat (first | exact Below.refl _ _ | refine bg_al ?_ | refine bg_gr ?_ | refine bg_drn ?_ | refine bg_dr ?_ | assumption))) HO'.out HRow'.out HC'.out hap8'); clear hap8'))
                  go_wp2_with fail
                  have hcu := HRow'.out
                  have hge := own_ge hcu
                  have hown8 := R.out.1
                  refine ⟨⟨k + 1, xs ++ [.slice (some ⟨g8, 0, none⟩) ((f k).length + 64) c8], by omega, by go_num, by simp [HXL.out], fun i hi => ?_, (R.out.2.2.2.2.2.1.trans (Below.chg _ (by (repeat (first | exact Below.refl _ _ | refine bg_al ?_ | refine bg_gr ?_ | refine bg_drn ?_ | refine bg_dr ?_ | assumption))))).grown hap9.2.1 (fun g h => .inr (hge g h)), hap9.1, fun i hi => ?_, fun i hi g hgi => ?_⟩, by simp [intOf]; omega⟩
                  · exact own_grown (own_below (R.out.2.2.1 i hi) (by (repeat (first | exact Below.refl _ _ | refine bg_al ?_ | refine bg_gr ?_ | refine bg_drn ?_ | refine bg_dr ?_ | assumption)))) hap9.2.1 (fun g' hg' e => by
                      have := HLt2.out i hi g' hg'
                      have := hge g' e
                      omega)
                  · by_cases hik : i < xs.length
                    · rw [List.getElem_append_left hik]
                      exact own_grown (own_below (R.out.2.2.2.2.1 i hik) (by (repeat (first | exact Below.refl _ _ | refine bg_al ?_ | refine bg_gr ?_ | refine bg_drn ?_ | refine bg_dr ?_ | assumption)))) hap9.2.1 (fun g' hg' e => own_type_ne R.out.2.2.2.1 (R.out.2.2.2.2.1 i hik) (by decide) g' e hg')
                    · have hik' : i = xs.length := by simp at hi; omega
                      subst hik'
                      simp only [List.getElem_append_right (Nat.le_refl _), Nat.sub_self, List.getElem_cons_zero]
                      rw [HXL.out]
                      exact own_grown (own_below hown8 (by (repeat (first | exact Below.refl _ _ | refine bg_al ?_ | refine bg_gr ?_ | refine bg_drn ?_ | refine bg_dr ?_ | assumption)))) hap9.2.1 (fun g' hg' e => own_type_ne R.out.2.2.2.1 hown8 (by decide) g' e hg')
                  · by_cases hik : i < xs.length
                    · rw [List.getElem_append_left hik] at hgi
                      exact HXB.out i hik g hgi
                    · have hik' : i = xs.length := by simp at hi; omega
                      subst hik'
                      simp only [List.getElem_append_right (Nat.le_refl _), Nat.sub_self, List.getElem_cons_zero] at hgi
                      have hxl := HXL.out
                      rcases R.out.2.1 g hgi with h | h
                      · exact .inl ⟨by omega, by simp only [hxl]; exact h⟩
                      · exact .inr h
                · have hkm : k = vs'.length := by omega
                  subst hkm
                  have HO' := Lib.hid hown
                  have HC' := Lib.hid hchg
                  have HX := Lib.hid hxs
                  have hRV := HR2.out.chg hchg HAS.out
                  obtain ⟨A5, c5, rfl, hR5, hc5, hm5, -⟩ := RdV.own hrow
                  have HXL := Lib.hid hxl
                  rw [hxl] at hc5
                  unfold maxLen at hm5
                  rw [HXL.out]
                  have h2' : ¬ (vs'.length : Int) < (vs'.length : Int) := by omega
                  clear hown hxs hrow hxl hxb hchg
                  go_wp2_with fail
                  go_loop [78] (fun i => ∃ k : Nat, k ≤ vs'.length ∧ i = .int .i64 k) (fun i => vs'.length - (intOf i).toNat)
                  case atStart => exact ⟨0, by omega, rfl⟩
                  case round =>
                    obtain ⟨k, hk, rfl⟩ := hrel
                    by_cases h1 : k < vs'.length
                    · have hb1 : (k : Int) < (vs'.length : Int) := by omega
                      have hb0 : (0 : Int) ≤ (k : Int) := by omega
                      have hkx : k < xs.length := by rw [HXL.out]; exact h1
                      obtain ⟨b5, o5, rfl, hcx⟩ := hR5 k hkx
                      obtain ⟨b, off, rfl, hcl⟩ := hRV k h1
                      obtain ⟨Ax, cx, hvx, hrx, hlx, hmx, -⟩ := (HX.out k hkx).form
                      obtain ⟨Al, cl, hvl, hrl, hll, hml, -⟩ := (HO'.out k h1).form
                      rw [hvx] at hcx
                      rw [hvl] at hcl
                      have e1 : (pat f k ++ List.replicate 64 (rb m k)).length = (f k).length + 64 := by simp [pat]
                      rw [e1] at hcx hlx
                      rw [pat_len] at hcl hll
                      unfold maxLen at hmx hml
                      have hlim := Hf.out k h1
                      have hrx' : ∀ c, c < (f k).length → ∃ b off, Ax = some ⟨b, off, none⟩ ∧ wr.cell? ⟨b, off + c, none⟩ = some (.int .u8 (IntKind.u8.wrap (37 * (k : Int) + (c : Int)))) := fun c hc => by
                        obtain ⟨b, off, e, h⟩ := hrx c (by rw [e1]; omega)
                        refine ⟨b, off, e, ?_⟩
                        rw [h, ← pb_val]
                        rw [List.getElem_append_left (by rw [pat_len]; exact hc)]
                        simp [pat]
                      have hry' : ∀ c, (f k).length ≤ c → c < (f k).length + 64 → ∃ b off, Ax = some ⟨b, off, none⟩ ∧ wr.cell? ⟨b, off + c, none⟩ = some (.int .u8 (((rb m k).toNat : Nat) : Int)) := fun c hc hc' => by
                        obtain ⟨b, off, e, h⟩ := hrx c (by rw [e1]; omega)
                        refine ⟨b, off, e, ?_⟩
                        rw [h]
                        rw [List.getElem_append_right (by rw [pat_len]; exact hc), List.getElem_replicate]
                      have hrl' : ∀ c, c < (f k).length → ∃ b off, Al = some ⟨b, off, none⟩ ∧ wr.cell? ⟨b, off + c, none⟩ = some (.int .u8 (IntKind.u8.wrap (37 * (k : Int) + (c : Int)))) := fun c hc => by
                        obtain ⟨b, off, e, h⟩ := hrl c (by rw [pat_len]; exact hc)
                        refine ⟨b, off, e, ?_⟩
                        rw [h, ← pb_val]
                        simp [pat]
                      have HRX := Lib.hid hrx'
                      have HRY := Lib.hid hry'
                      have HRL := Lib.hid hrl'
                      have hxr : bits .xor .u8 (m : Int) ((k : Int) % 256) = (((rb m k).toNat : Nat) : Int) := by rw [← rb_val m k hm, IntKind.wrap_u8]
                      have HXR := Lib.hid hxr
                      clear hvx hvl e1 hrx hrl hrx' hrl' hry' hxr
                      go_wp2_with fail
                      go_loop [86] (fun j => ∃ c : Nat, c ≤ (f k).length ∧ j = .int .i64 c) (fun j => (f k).length - (intOf j).toNat)
                      case atStart => exact ⟨0, by omega, rfl⟩
                      case round =>
                        obtain ⟨c, hc, rfl⟩ := hrel
                        by_cases h2 : c < (f k).length
                        · have hb2 : (c : Int) < ((f k).length : Int) := by omega
                          have hb20 : (0 : Int) ≤ (c : Int) := by omega
                          have hb21 : (c : Int) < ((f k).length : Int) + 64 := by omega
                          obtain ⟨bx, ox, rfl, hcc⟩ := HRX.out c h2
                          obtain ⟨bl, ol, rfl, hcd⟩ := HRL.out c h2
                          go_wp2
                          go_round
                          case rel => exact ⟨c + 1, by omega, by go_num⟩
                          case measure => simp [intOf]; omega
                        · obtain rfl : c = (f k).length := by omega
                          have hb2 : ¬ ((f k).length : Int) < ((f k).length : Int) := by omega
                          go_wp2_with fail
                          go_loop [14] (fun j => ∃ c : Nat, (f k).length ≤ c ∧ c ≤ (f k).length + 64 ∧ j = .int .i64 c) (fun j => (f k).length + 64 - (intOf j).toNat)
                          case atStart => exact ⟨_, Nat.le_refl _, by omega, rfl⟩
                          case round =>
                            obtain ⟨c, hc, hc', rfl⟩ := hrel
                            by_cases h3 : c < (f k).length + 64
                            · have hb3 : (c : Int) < ((f k).length : Int) + 64 := by omega
                              have hb30 : (0 : Int) ≤ (c : Int) := by omega
                              obtain ⟨bx, ox, rfl, hcc⟩ := HRY.out c hc h3
                              have hxr := HXR.out
                              go_wp2
                              go_round
                              case rel => exact ⟨c + 1, by omega, by omega, by go_num⟩
                              case measure => simp [intOf]; omega
                            · have hb3 : ¬ (c : Int) < ((f k).length : Int) + 64 := by omega
                              go_wp2
                              go_round
                              case rel => exact ⟨k + 1, by omega, by go_num⟩
                              case measure => simp [intOf]; omega
                    · have hb1 : ¬ (k : Int) < (vs'.length : Int) := by omega
                      go_wp2
                      exact ⟨⟨c + 1, by omega, by go_num, HO'.out, HC'.out⟩, by simp [intOf]; omega⟩
            · have h1i : ¬ (c : Int) < 2 := by omega
              go_wp2
              go_ret
              exact ⟨rfl, HC2.out.trans HC.out⟩
end Go.Proofs.Ytdhkhdeblkbojaa
