/- An honest access: Put. -/
import Derived.Test.YtcbglojjbgenlaaMedK
namespace Go.Proofs.Ytcbglojjbgenlaa
open Go.RowKit Go.MapL Go.ChangeMaps Go.MapKept
set_option linter.unusedSimpArgs false
set_option linter.unusedVariables false
attribute [local go_sem] size_gr cell_gr frozen_gr setCell_gr gr_drew gr_drewN lt_k lt_kc le_k le_kc sub_kc nil29 nil28 nil49 mkmap size_setBlock cell_setB
attribute [local go_sem ↓] Go.wp_at_zero Go.wp_at_succ

theorem chg_al {S : Nat → Prop} {a w : World} {o : Obj} (h : Chg S a w) : Chg S a (w.alloc o) := h.trans (Below.chg _ (bg_al (Below.refl _ _)))
theorem chg_dr {S : Nat → Prop} {a w : World} (h : Chg S a w) : Chg S a w.drew := h.drewN 1
theorem chg_setBl {B : Nat} {R : Nat → Prop} {a w : World} {o : Obj} (h : Chg (fun k => k = B ∨ R k) a w) : Chg (fun k => k = B ∨ R k) a (setBlock w B o) := chg_setB (S := fun k => k = B ∨ R k) h (Or.inl rfl) o
theorem grown_chg {a w w' : World} {r : Option Nat} {S : Nat → Prop} (h : Chg S a w) (hg : w.grownBy w' r) (hr : ∀ k, r = some k → S k) : Chg S a w' :=
  h.trans ⟨hg.os, hg.tape, hg.output, hg.size, fun k hk hs => hg.block k hk (fun e => hs (hr k e.symm))⟩
theorem range_chg {S : Nat → Prop} {w w' : World} {g o : Nat} {cs : List Value} (h : w.rangeAt g o cs) (hb : Chg S w w') (hs : ¬ S g) : w'.rangeAt g o cs := fun j v hv => by
  have := h j v hv
  rw [World.cell?_of_block (hb.block g (World.block_lt_of_cell? w _ this) hs)]
  exact this
theorem keepC {S : Nat → Prop} {W0 W : World} {A : Nat} {q : H32} (hr : W0.rangeAt A 1 (q.1.map bv)) (hs : ¬ S A) (h : Chg S W0 W) :
    (∀ (b o : Nat), b < W0.heap.size → ¬ S b → W.cell? ⟨b, o, none⟩ = W0.cell? ⟨b, o, none⟩) ∧ W.rangeAt A 1 (q.1.map bv) :=
  ⟨fun b o hb hn => World.cell?_of_block (h.block b hb hn), range_chg hr h hs⟩

set_option maxHeartbeats 1000000 in
set_option maxRecDepth 8000 in
theorem does_put (D A B N V nB nN nV : Nat) (f : Fd) (mB mN mV : H32 → Option Value) (q : H32) (dA : Option Addr) (dn dc : Nat) (ks : Value) (n cnt : Int) (tag : H32) (w : World) (hD : DevAt w D f) (hA : DeedAt w A 2 q (.slice dA dn dc) ks n cnt tag)
    (hfB : f.bm = .map (some B)) (hfN : f.nb = .map (some N)) (hfV : f.vers = .map (some V)) (hBN : B ≠ N) (hVB : V ≠ B) (hVN : V ≠ N) (hB : MapIs HC w B mB nB) (hN : MapIs HC w N mN nN) (hV : MapIs HC w V mV nV)
    (hno : mN q = none) (hroom : (mB q).isSome = true ∨ (nB : Int) < f.slots) (xA : Option Addr) (xn xc : Nat) (xb : Bool) (hxo : (mB q).getD (.slice none 0 0) = .slice xA xn xc) (hxb : (mB q).isSome = xb) (nB' : Nat) (hnB : (if (mB q).isSome then nB else nB + 1) = nB')
    (oA : Option Addr) (on oc : Nat) (hvo : (mV q).getD (.slice none 0 0) = .slice oA on oc) (vals : List Value) (hown : w.ownsRow 0 29 1 (.slice oA on oc) on vals) (hbig : on ≤ 1099511627776) (hDo : (Value.slice oA on oc).ownBlock ≠ some D) (hAo : (Value.slice oA on oc).ownBlock ≠ some A) :
    Calls Try.prog 62 #[.pointer (some ⟨D, 0, none⟩), .pointer (some ⟨A, 0, none⟩)] w fun e w' => ∃ v9 nV', e = .returned (.int .i64 0) ∧ MapIs HC w' B (putV mB q (.slice dA dn dc)) nB' ∧ MapIs HC w' N (putV mN q (.agg #[.slice xA xn xc, .bool xb])) (nN + 1) ∧
      MapIs HC w' V (putV mV q v9) nV' ∧ w'.ownsRow 0 29 1 v9 (on + 1) (vals ++ [.slice dA dn dc]) ∧ (v9.ownBlock = (Value.slice oA on oc).ownBlock ∨ ∃ k, w.heap.size ≤ k ∧ v9.ownBlock = some k) ∧ Chg (fun k => k = B ∨ k = N ∨ k = V ∨ (Value.slice oA on oc).ownBlock = some k) w w' := by
  have HR : Hid (Calls Try.prog 63 #[.pointer (some ⟨D, 0, none⟩), .pointer (some ⟨A, 0, none⟩)] w fun e w' => e = .returned (.int .i64 0) ∧ ∃ k, w' = w.drewN k) := Lib.hid (by
    cases hb : (mB q).isSome with
    | true => exact refuses_put_old D A B nB f mB q _ ks n cnt tag w hD hA hfB hB _ rfl hb
    | false =>
      rw [hb] at hroom
      exact refuses_put D A B nB f mB q _ ks n cnt tag w hD hA hfB hB _ rfl hb (hroom.resolve_left (by simp)))
  have HDq := Lib.hid hD
  have HAq := Lib.hid hA
  obtain ⟨hc0, hc1, hc2, hc3, hc4, -, -, -, hc40, -⟩ := dev_c hD
  obtain ⟨ha0, ha33, ha34, ha35, ha36, hak, har⟩ := deed_c hA
  rw [hfV] at hc40
  have hDA := dev_ne_deed hD hA
  have hDB := (map_ne_cells hB hD).symm
  have hDN := (map_ne_cells hN hD).symm
  have hDV := (map_ne_cells hV hD).symm
  have hAB := (map_ne_cells hB hA).symm
  have hAN := (map_ne_cells hN hA).symm
  have hAV := (map_ne_cells hV hA).symm
  have hDlt : D < w.heap.size := World.block_lt_of_cell? w _ hc2
  have hAlt : A < w.heap.size := World.block_lt_of_cell? w _ ha0
  have HK := Lib.hid hak
  have HB := Lib.hid hB
  have HN := Lib.hid hN
  have HV := Lib.hid hV
  have HSET := Lib.hid (fun (W : World) (hb : Below w.heap.size w W) => set_new D B N nB nN f mB mN q (.slice dA dn dc) W (dev_bel hD hb) hfB hfN hBN (map_bel hB hb) (map_bel hN hb) hno xA xn xc xb hxo hxb nB' hnB)
  have HOW := Lib.hid hown
  have HVO := Lib.hid hvo
  have HBIG := Lib.hid hbig
  have hql := q_len q
  have hqu := Try.underlying33
  have hqi := hash_info q
  clear hD hA hB hN hV hak har hroom hno hxo hxb hnB hvo hown hbig hfB hfN hfV
  unfold hv at HSET
  go_enter Try.func62, Try.ntmps62
  go_wp2_with (go_at_call 63; refine HR.out.mono ?_; rintro en w1 ⟨rfl, n1, rfl⟩)
  refine with_world (fun W0 hW0 => ?_)
  have hB0 : Below w.heap.size w W0 := by rw [hW0]; (repeat (first | exact Below.refl _ _ | refine bg_al ?_ | refine bg_gr ?_ | refine bg_drn ?_ | refine bg_dr ?_ | assumption))
  have HB0 := Lib.hid hB0
  have z0 : D < W0.heap.size := by have := hB0.size; omega
  have y0 : A < W0.heap.size := by have := hB0.size; omega
  have k33 : W0.cell? ⟨A, 33, none⟩ = some (.slice dA dn dc) := by rw [hB0.cell (p := ⟨A, 33, none⟩) hAlt]; exact ha33
  have k40 : W0.cell? ⟨D, 40, none⟩ = some (.map (some V)) := by rw [hB0.cell (p := ⟨D, 40, none⟩) hDlt]; exact hc40
  clear hB0 hW0
  go_region_held3 (fun W => (∀ (b o : Nat), b < W0.heap.size → ¬ (b = B ∨ b = N) → W.cell? ⟨b, o, none⟩ = W0.cell? ⟨b, o, none⟩) ∧ W.rangeAt A 1 (q.1.map bv))
    (first | exact keepC (S := fun k => k = B ∨ k = N) (range_bel HK.out HB0.out) (by simp [hAB, hAN]) (HCH.out) | exact keepC (S := fun k => k = B ∨ k = N) (range_bel HK.out HB0.out) (by simp [hAB, hAN]) (Below.chg _ (by (repeat (first | exact Below.refl _ _ | refine bg_al ?_ | refine bg_gr ?_ | refine bg_drn ?_ | refine bg_dr ?_ | assumption)))))
    (first | (go_at_call 65; refine (HSET.out _ (by have hB0 := HB0.out; (repeat (first | exact Below.refl _ _ | refine bg_al ?_ | refine bg_gr ?_ | refine bg_drn ?_ | refine bg_dr ?_ | assumption)))).mono ?_; rintro en w2 ⟨rfl, hb2, hn2, hch2⟩; have HB2 := Lib.hid hb2; have HN2 := Lib.hid hn2; have HCH := Lib.hid (show Chg (fun k => k = B ∨ k = N) W0 w2 from ⟨hch2.os, hch2.tape, hch2.output, hch2.size, hch2.block⟩); clear hb2 hn2 hch2))
  go_wp2_with fail
  have hC1 : Chg (fun k => k = B ∨ k = N) w w2 := (Below.chg _ HB0.out).trans HCH.out
  have HC1 := Lib.hid hC1
  have hOb : ∀ k, (Value.slice oA on oc).ownBlock = some k → k < w.heap.size ∧ ¬ (k = B ∨ k = N) ∧ k ≠ V := fun k hk => by
    rcases HOW.out.2 with ⟨e, _⟩ | ⟨g, cap, cur, e, _, hg, _⟩
    · rw [e] at hk; simp [Value.ownBlock] at hk
    · rw [e] at hk
      simp [Value.ownBlock] at hk
      subst hk
      exact ⟨(Array.getElem?_eq_some_iff.1 hg).1, fun h => h.elim (fun h => map_ne_cells HB.out hg h.symm) (fun h => map_ne_cells HN.out hg h.symm), fun h => map_ne_cells HV.out hg h.symm⟩
  have HOB := Lib.hid hOb
  have x0 : D < w2.heap.size := by have := hC1.size; omega
  have x1 : A < w2.heap.size := by have := hC1.size; omega
  have x2 : V < w2.heap.size := by have := hC1.size; have := HV.out.lt; omega
  have j40 : w2.cell? ⟨D, 40, none⟩ = some (.map (some V)) := by rw [World.cell?_of_block (hC1.block D hDlt (by simp [hDB, hDN]))]; exact hc40
  have j33 : w2.cell? ⟨A, 33, none⟩ = some (.slice dA dn dc) := by rw [World.cell?_of_block (hC1.block A hAlt (by simp [hAB, hAN]))]; exact ha33
  have HR1 := Lib.hid (range_chg HK.out hC1 (by simp [hAB, hAN]))
  have hV1 := map_chg HV.out hC1 (by simp [hVB, hVN])
  have HV1 := Lib.hid hV1
  have hO1 : w2.ownsRow 0 29 1 (.slice oA on oc) on vals := own_chg HOW.out hC1 (fun k hk => (hOb k hk).2.1)
  have HO1 := Lib.hid hO1
  obtain ⟨st1, o1, hr1, hf1⟩ := map_entry (map_bel hV1 (show Below w2.heap.size w2 w2.drew by (repeat (first | exact Below.refl _ _ | refine bg_al ?_ | refine bg_gr ?_ | refine bg_drn ?_ | refine bg_dr ?_ | assumption)))) Try.underlying78 zeroR q
  obtain ⟨st2, o2, hr2, hf2⟩ := map_entry (map_bel hV1 (show Below w2.heap.size w2 (w2.alloc (.cells #[.slice dA dn dc] 29)).drew by (repeat (first | exact Below.refl _ _ | refine bg_al ?_ | refine bg_gr ?_ | refine bg_drn ?_ | refine bg_dr ?_ | assumption)))) Try.underlying78 zeroR q
  rw [HVO.out] at hr1 hr2
  unfold hv at hr1 hr2
  have HF1 := Lib.hid hf1
  have HF2 := Lib.hid hf2
  have hVg1 : ∀ o, (setBlock w2.drew V o).heap[V]? = some o := fun o => by obtain ⟨es, clk, hb, _⟩ := hV1; exact heap_setBlock_same (w := w2.drew) hb o
  have HVG1 := Lib.hid hVg1
  have hVg2 : ∀ o, (setBlock (w2.alloc (.cells #[.slice dA dn dc] 29)).drew V o).heap[V]? = some o := fun o => by
    obtain ⟨es, clk, hb, _⟩ := map_bel hV1 (show Below w2.heap.size w2 (w2.alloc (.cells #[.slice dA dn dc] 29)).drew by (repeat (first | exact Below.refl _ _ | refine bg_al ?_ | refine bg_gr ?_ | refine bg_drn ?_ | refine bg_dr ?_ | assumption)))
    exact heap_setBlock_same hb o
  have HVG2 := Lib.hid hVg2
  have HSa := Lib.hid (show Chg (fun k => k = V ∨ (Value.slice oA on oc).ownBlock = some k) w2 ((setBlock w2.drew V o1).alloc (.cells #[.slice dA dn dc] 29)) from chg_al (chg_setBl (chg_dr (Chg.refl _ _))))
  have HSb := Lib.hid (show Chg (fun k => k = V ∨ (Value.slice oA on oc).ownBlock = some k) w2 (setBlock (w2.alloc (.cells #[.slice dA dn dc] 29)).drew V o2) from chg_setBl (chg_dr (chg_al (Chg.refl _ _))))
  have HOa := Lib.hid (show ((setBlock w2.drew V o1).alloc (.cells #[.slice dA dn dc] 29)).ownsRow 0 29 1 (.slice oA on oc) on vals from own_chg hO1 (S := fun k => k = V ∨ False) (chg_al (chg_setBl (chg_dr (Chg.refl _ _)))) (fun k hk => by simp [(hOb k hk).2.2]))
  have HOb := Lib.hid (show (setBlock (w2.alloc (.cells #[.slice dA dn dc] 29)).drew V o2).ownsRow 0 29 1 (.slice oA on oc) on vals from own_chg hO1 (S := fun k => k = V ∨ False) (chg_setBl (chg_dr (chg_al (Chg.refl _ _)))) (fun k hk => by simp [(hOb k hk).2.2]))
  have HLa := Lib.hid (show ((setBlock w2.drew V o1).alloc (.cells #[.slice dA dn dc] 29)).heap[w2.heap.size]? = some (.cells #[.slice dA dn dc] 29 (0, 0)) from by
    rw [show w2.heap.size = (setBlock w2.drew V o1).heap.size from (size_setBlock _ _ _).symm]; exact heap_alloc_last _ _)
  have HLb := Lib.hid (show (setBlock (w2.alloc (.cells #[.slice dA dn dc] 29)).drew V o2).heap[w2.heap.size]? = some (.cells #[.slice dA dn dc] 29 (0, 0)) from by
    rw [heap_setB _ _ _ _ (by omega)]; exact heap_alloc_last w2 _)
  have HMa := Lib.hid (show ((setBlock w2.drew V o1).alloc (.cells #[.slice dA dn dc] 29)).heap[V]? = some o1 from by
    rw [Below.heap_alloc _ _ _ (by rw [size_setBlock]; exact x2)]; exact hVg1 o1)
  clear hC1 hOb hV1 hO1 hf1 hf2 hVg1 hVg2
  go_region_held3 (fun W => (∀ (b o : Nat), b < w2.heap.size → ¬ (b = V ∨ (Value.slice oA on oc).ownBlock = some b) → W.cell? ⟨b, o, none⟩ = w2.cell? ⟨b, o, none⟩) ∧ W.rangeAt A 1 (q.1.map bv))
    (first | exact keepC HR1.out (by simp [hAV, hAo]) (chg_setBl HK9.out) | exact keepC HR1.out (by simp [hAV, hAo]) HK9.out | exact keepC HR1.out (by simp [hAV, hAo]) HSa.out | exact keepC HR1.out (by simp [hAV, hAo]) HSb.out | exact keepC HR1.out (by simp [hAV, hAo]) (chg_setBl (chg_dr (Chg.refl _ _))) | exact keepC HR1.out (by simp [hAV, hAo]) (chg_dr (chg_al (Chg.refl _ _))) | exact keepC HR1.out (by simp [hAV, hAo]) (chg_dr (Chg.refl _ _)))
    (first
      | (refine step_ap rowsT (by rfl) (by rfl) (by rfl) HOb.out (by rfl) (Src.block (m := 1) HLb.out (by rfl)) (by simp [Value.oneCell']) (by have := HBIG.out; simp only [maxLen]; omega) (by have := HBIG.out; omega) (Nat.zero_le _) ?_; intro v9 w9 hap; have HAP := Lib.hid hap; have HK9 := Lib.hid (grown_chg HSb.out hap.2.1 (fun k hk => Or.inr hk)); obtain ⟨g9, c9, rfl, hc9, hm9, hb9, hlt9⟩ := own_form hap.1 (by omega); obtain ⟨o9, hr9, hmap9⟩ := HF2.out w9 (.slice (some ⟨g9, 0, none⟩) (on + 1) c9) ((hap.2.1.block V (by rw [size_setBlock]; show V < (w2.alloc _).heap.size; rw [World.size_alloc]; exact Nat.lt_succ_of_lt x2) (fun e => (HOB.out V e.symm).2.2 rfl)).trans (HVG2.out o2)); have HM9 := Lib.hid hmap9; clear hap hmap9))
  go_wp2_with fail
  go_ret
  have hK := chg_setBl (o := o9) HK9.out
  have hOwn := own_chg (S := fun k => k = V ∨ False) HAP.out.1 (chg_setBl (o := o9) (Chg.refl _ w9)) (fun k hk => by
    simp [Value.ownBlock] at hk
    subst hk
    rintro (rfl | h)
    · rcases HAP.out.2.2 with ⟨h, _⟩ | ⟨h, _⟩
      · exact (HOB.out g9 h.symm).2.2 rfl
      · simp only [Value.ownBlock, Option.some.injEq, size_setBlock] at h
        have h2 : (w2.alloc (.cells #[.slice dA dn dc] 29)).drew.heap.size = w2.heap.size + 1 := by
          show (w2.alloc _).heap.size = _
          rw [World.size_alloc]
        omega
    · exact h)
  refine ⟨rfl, ?_, ?_, _, ⟨_, HM9.out⟩, hOwn, ?_, ?_⟩
  · exact map_chg HB2.out hK (by
      rintro (h | h)
      · exact hVB h.symm
      · exact (HOB.out B h).2.1 (Or.inl rfl))
  · exact map_chg HN2.out hK (by
      rintro (h | h)
      · exact hVN h.symm
      · exact (HOB.out N h).2.1 (Or.inr rfl))
  · rcases HAP.out.2.2 with ⟨h, _⟩ | ⟨h, _⟩
    · exact Or.inl h
    · refine Or.inr ⟨_, ?_, h⟩
      rw [size_setBlock]
      have := HC1.out.size
      show w.heap.size ≤ (w2.alloc _).heap.size
      rw [World.size_alloc]
      omega
  · exact (HC1.out.mono (fun k _ h => h.elim Or.inl (fun h => Or.inr (Or.inl h)))).trans (hK.mono (fun k _ h => Or.inr (Or.inr h)))
end Go.Proofs.Ytcbglojjbgenlaa
