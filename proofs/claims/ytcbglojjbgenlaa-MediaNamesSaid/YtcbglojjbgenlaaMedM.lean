/- Has the access changed anything? -/
import Derived.Test.YtcbglojjbgenlaaMedL
import Derived.Maps.RangeWalk
namespace Go.Proofs.Ytcbglojjbgenlaa
open Go.RowKit Go.MapL Go.ChangeMaps Go.MapKept
set_option linter.unusedSimpArgs false
set_option linter.unusedVariables false
attribute [local go_sem] size_gr cell_gr frozen_gr setCell_gr gr_drew gr_drewN lt_k lt_kc le_k le_kc sub_kc nil29 nil28 nil49 mkmap size_setBlock cell_setB
attribute [local go_sem ↓] Go.wp_at_zero Go.wp_at_succ

theorem lenO {w : World} {B n : Nat} {m : H32 → Option Value} (h : MapIs HC w B m n) : (Builtin.len_ #[80] 3 #[.map (some B)]).run Try.prog w = .ok (.int .i64 n) w := map_len h Try.underlying80
theorem ranging_zero {w : World} {B r n : Nat} {m : H32 → Option Value} {left : H32 → Prop} {cnt : Nat} (h : Ranging HC w B r m n left cnt) (hl : ∀ q, ¬ left q) : cnt = 0 := by
  rcases h.next 3 with ⟨h0, _⟩ | ⟨q, _, _, _, _, hq, _⟩
  · exact h0
  · exact absurd hq (hl q)

set_option maxHeartbeats 1000000 in
set_option maxRecDepth 8000 in
theorem changed_empty (D N nN : Nat) (f : Fd) (mN : H32 → Option Value) (w : World) (hD : DevAt w D f) (hfN : f.nb = .map (some N)) (hN : MapIs HC w N mN 0) (hem : ∀ q, mN q = none) (la lb : Bs) (hla : SB w f.nl la) (hlb : SB w f.log lb) :
    Calls Try.prog 44 #[.pointer (some ⟨D, 0, none⟩)] w fun e w' => e = .returned (.bool (!(la == lb))) ∧ Below w.heap.size w w' := by
  have HDq := Lib.hid hD
  obtain ⟨hc0, hc1, hc2, hc3, hc4, -, -, -, hc40, hc41, hc42, hc43⟩ := dev_c hD
  have hDlt : D < w.heap.size := World.block_lt_of_cell? w _ hc3
  rw [hfN] at hc42
  have HN := Lib.hid hN
  have HE := Lib.hid hem
  have HA := Lib.hid hla
  have HB := Lib.hid hlb
  clear hD hN hfN hem hla hlb
  go_enter Try.func44, Try.ntmps44
  go_wp2_with (first
    | (at_range; refine wl_range rfl _ _ rfl _ Try.underlying80 (by rfl) (HN.out) ?_; intro ob hrg; have HRG := Lib.hid hrg; clear hrg))
  refine wp_loop_rounds 1 ?_
  rw [rounds_succ]
  go_wp2_with (first
    | (at_next; refine wl_next rfl _ rfl (by rfl) HRG.out ?_ ?_))
  · intro _
    go_wp2_with fail
    refine with_world (fun W0 hW0 => ?_)
    have hB0 : Below w.heap.size w W0 := by rw [hW0]; (repeat (first | exact Below.refl _ _ | refine bg_al ?_ | refine bg_gr ?_ | refine bg_drn ?_ | refine bg_dr ?_ | assumption))
    have HB0 := Lib.hid hB0
    have z0 : D < W0.heap.size := by have := hB0.size; omega
    have k3 : W0.cell? ⟨D, 3, none⟩ = some f.log := by rw [hB0.cell (p := ⟨D, 3, none⟩) hDlt]; exact hc3
    have k42 : W0.cell? ⟨D, 42, none⟩ = some (.map (some N)) := by rw [hB0.cell (p := ⟨D, 42, none⟩) hDlt]; exact hc42
    have k43 : W0.cell? ⟨D, 43, none⟩ = some f.nl := by rw [hB0.cell (p := ⟨D, 43, none⟩) hDlt]; exact hc43
    clear hW0 hB0
    go_wp2_with fail
    go_region_held3 (fun W => (∀ (b o : Nat), b < W0.heap.size → W.cell? ⟨b, o, none⟩ = W0.cell? ⟨b, o, none⟩) ∧ (Builtin.len_ #[80] 3 #[.map (some N)]).run Try.prog W = .ok (.int .i64 0) W)
      (exact ⟨cellB (by (repeat (first | exact Below.refl _ _ | refine bg_al ?_ | refine bg_gr ?_ | refine bg_drn ?_ | refine bg_dr ?_ | assumption))), lenO ((map_bel HN.out HB0.out).of_cell ((show Below W0.heap.size W0 _ by (repeat (first | exact Below.refl _ _ | refine bg_al ?_ | refine bg_gr ?_ | refine bg_drn ?_ | refine bg_dr ?_ | assumption))).block N (map_bel HN.out HB0.out).lt))⟩)
      (first | (go_at_call 57; refine (beq_any _ _ la lb _ (HA.out.below (by have hB0 := HB0.out; (repeat (first | exact Below.refl _ _ | refine bg_al ?_ | refine bg_gr ?_ | refine bg_drn ?_ | refine bg_dr ?_ | assumption)))) (HB.out.below (by have hB0 := HB0.out; (repeat (first | exact Below.refl _ _ | refine bg_al ?_ | refine bg_gr ?_ | refine bg_drn ?_ | refine bg_dr ?_ | assumption))))).mono ?_; rintro en w2 ⟨rfl, n2, rfl⟩))
    go_wp2_with fail
    go_ret
    exact ⟨rfl, by have hB0 := HB0.out; (repeat (first | exact Below.refl _ _ | refine bg_al ?_ | refine bg_gr ?_ | refine bg_drn ?_ | refine bg_dr ?_ | assumption))⟩

theorem st_hash2 (W : World) (g : Nat) (q : H32) (c : Array Value) (o2 : Obj) (hg : W.heap.size = g) (hc : c.size = 32) :
    (storeCells ⟨g, 0, none⟩ (q.1.map bv) 0).run Try.prog ((W.alloc (.cells c 33)).alloc o2) = .ok () ((W.alloc (.cells (q.1.map bv).toArray 33)).alloc o2) := by
  subst hg
  have hb : ((W.alloc (.cells c 33)).alloc o2).heap[W.heap.size]? = some (.cells c 33 (0, 0)) := by
    rw [Below.heap_alloc _ _ _ (by simp), heap_alloc_last]
  rw [st_whole (c := c) (t := 33) hb (by rw [hc, q_len]) (by unfold OneC; exact all_oneCell_toArray (bv_one _))]
  congr 1
  simp only [World.setRow, World.alloc]
  congr 1
  apply Array.ext_getElem?
  intro i
  rw [Array.getElem?_modify]
  by_cases h : W.heap.size = i
  · subst h
    simp [Array.getElem?_push]
  · have h' : ¬ i = W.heap.size := fun e => h e.symm
    simp [h, h', Array.getElem?_push]
attribute [local go_sem] st_hash2

set_option maxHeartbeats 1000000 in
set_option maxRecDepth 8000 in
theorem changed_one (D B N nB : Nat) (f : Fd) (mB mN : H32 → Option Value) (q : H32) (w : World) (hD : DevAt w D f) (hfB : f.bm = .map (some B)) (hfN : f.nb = .map (some N)) (hB : MapIs HC w B mB nB) (hN : MapIs HC w N mN 1)
    (sA : Option Addr) (sn sc : Nat) (sb : Bool) (hq : mN q = some (.agg #[.slice sA sn sc, .bool sb])) (ho : ∀ q', q' ≠ q → mN q' = none) (xA : Option Addr) (xn xc : Nat) (hxo : (mB q).getD (.slice none 0 0) = .slice xA xn xc) (hxb : (mB q).isSome = !sb) :
    Calls Try.prog 44 #[.pointer (some ⟨D, 0, none⟩)] w fun e w' => e = .returned (.bool true) ∧ Below w.heap.size w w' := by
  have HDq := Lib.hid hD
  obtain ⟨hc0, hc1, hc2, hc3, hc4, -, -, -, hc40, hc41, hc42, hc43⟩ := dev_c hD
  have hDlt : D < w.heap.size := World.block_lt_of_cell? w _ hc3
  have hDN := (map_ne_cells hN hD).symm
  rw [hfN] at hc42
  rw [hfB] at hc2
  have HB := Lib.hid hB
  have HN := Lib.hid hN
  have HQ := Lib.hid hq
  have HO := Lib.hid ho
  have HXO := Lib.hid hxo
  have HXB := Lib.hid hxb
  have hql := q_len q
  have hqu := Try.underlying33
  have hqi := hash_info q
  have hsb : (!sb == sb) = false := by cases sb <;> rfl
  clear hD hB hN hfB hfN hq ho hxo hxb
  go_enter Try.func44, Try.ntmps44
  go_wp2_with (first
    | (at_range; refine wl_range rfl _ _ rfl _ Try.underlying80 (by rfl) (HN.out) ?_; intro ob hrg; have HRG := Lib.hid hrg; clear hrg))
  refine wp_loop_rounds 2 ?_
  rw [rounds_succ]
  have HNX : ∀ (ops : Array Oper) (rest : List Oper) (o : Oper) (a : Act) (Q : Exit → Act → World → Prop) (hg : o.guard = none) (it : Operand) (hop : o.op = Op.next it false) (hit : a.eval it = .pointer (some ⟨w.heap.size, 0, none⟩))
      (hMore : ∀ w1 ob2 cnt', (w1 = w.alloc ob ∨ w1 = (w.alloc ob).drew) → Hid (Ranging HC (setBlock w1 w.heap.size ob2) N w.heap.size mN 1 (fun _ => False) cnt') →
        (Instr.entry (.pointer (some ⟨w.heap.size, 0, none⟩))).run Try.prog (setBlock w1 w.heap.size ob2) = .ok (.tuple #[.agg (q.1.map bv).toArray, .agg #[.slice sA sn sc, .bool sb]]) (setBlock w1 w.heap.size ob2) →
        wpList Try.prog ops Q rest (a.put o.dst (.tuple #[.bool true, .agg (q.1.map bv).toArray, .agg #[.slice sA sn sc, .bool sb]])) (setBlock w1 w.heap.size ob2)), wpList Try.prog ops Q (o :: rest) a (w.alloc ob) := by
    intro ops rest o a Q hg it hop hit hMore
    refine wl_next hg it hop hit HRG.out ?_ ?_
    · intro _ hl
      exact absurd (by rw [HQ.out]; rfl) (hl q)
    · intro q' v w1 ob2 cnt' hl hv' hw hr _ hen
      have hqq : q' = q := Classical.byContradiction fun h => by
        have := HO.out q' h
        rw [this] at hv'
        cases hv'
      subst hqq
      rw [HQ.out] at hv'
      injection hv' with hv'
      subst hv'
      refine hMore w1 ob2 cnt' hw (Lib.hid ?_) hen
      obtain ⟨es, clk, since, seen, c0, z1, z2, z3, z4, z5, z6, z7, z8, z9, z10, z11⟩ := hr
      refine ⟨es, clk, since, seen, c0, z1, z2, z3, z4, z5, z6, z7, z8, z9, z10, fun q2 => ?_⟩
      rw [← z11 q2]
      constructor
      · exact fun h => h.elim
      · rintro ⟨h1, h2⟩
        have := HO.out q2 h2
        simp only [this] at h1
        cases h1
  have HNX' := Lib.hid HNX
  clear HNX
  go_wp2_with (at_next; refine HNX'.out _ _ _ _ _ rfl _ rfl rfl ?_; intro w1 ob2 cnt2 hw1 HR2 hen; have hz1 : w1.heap.size = w.heap.size + 1 := (by rcases hw1 with rfl | rfl <;> simp); have HC1 : Hid (Chg (fun k => k = w.heap.size) w (setBlock w1 w.heap.size ob2)) := Lib.hid (chg_setB (S := fun k => k = w.heap.size) (by rcases hw1 with rfl | rfl <;> exact Below.chg _ (by (repeat (first | exact Below.refl _ _ | refine bg_al ?_ | refine bg_gr ?_ | refine bg_drn ?_ | refine bg_dr ?_ | assumption)))) rfl ob2); clear hw1)
  refine with_world (fun W0 hW0 => ?_)
  have hB0 : Below w.heap.size w W0 := by rw [hW0]; exact bg_al (bg_al (chg_below HC1.out (fun k hk h => by omega)))
  have HB0 := Lib.hid hB0
  have hR0 : Ranging HC W0 N w.heap.size mN 1 (fun _ => False) cnt2 := by
    rw [hW0]
    have h1 := HR2.out.is.lt
    have h2 := HR2.out.lt
    exact HR2.out.of_cells (by rw [Below.heap_alloc _ _ _ (by rw [World.size_alloc]; omega), Below.heap_alloc _ _ _ h1]) (by rw [Below.heap_alloc _ _ _ (by rw [World.size_alloc]; omega), Below.heap_alloc _ _ _ h2])
  have HR0 := Lib.hid hR0
  have hk0 : W0.heap[w.heap.size + 1]? = some (.cells (q.1.map bv).toArray 33 (0, 0)) := by
    rw [hW0, Below.heap_alloc _ _ _ (by simp [size_setBlock, hz1])]
    have : (setBlock w1 w.heap.size ob2).heap.size = w.heap.size + 1 := by rw [size_setBlock, hz1]
    rw [← this]
    exact heap_alloc_last _ _
  have hq0 : W0.rangeAt (w.heap.size + 1) 0 (q.1.map bv) := range_blk hk0 0 _ (fun j v h => by simpa using h)
  have HK0 := Lib.hid hq0
  have ho0 : W0.heap[w.heap.size + 2]? = some (.cells #[.slice sA sn sc, .bool sb] 112 (0, 0)) := by
    have : ((setBlock w1 w.heap.size ob2).alloc (.cells (q.1.map bv).toArray 33)).heap.size = w.heap.size + 2 := by rw [World.size_alloc, size_setBlock, hz1]
    rw [hW0, ← this]
    exact heap_alloc_last _ _
  have z0 : D < W0.heap.size := by have := hB0.size; omega
  have z2 : w.heap.size + 2 < W0.heap.size := (Array.getElem?_eq_some_iff.1 ho0).1
  have k2 : W0.cell? ⟨D, 2, none⟩ = some (.map (some B)) := by rw [hB0.cell (p := ⟨D, 2, none⟩) hDlt]; exact hc2
  have k42 : W0.cell? ⟨D, 42, none⟩ = some (.map (some N)) := by rw [hB0.cell (p := ⟨D, 42, none⟩) hDlt]; exact hc42
  have k00 : W0.cell? ⟨w.heap.size + 2, 0, none⟩ = some (.slice sA sn sc) := by rw [cell_of_row _ _ _ _ _ _ ho0]; rfl
  have k01 : W0.cell? ⟨w.heap.size + 2, 1, none⟩ = some (.bool sb) := by rw [cell_of_row _ _ _ _ _ _ ho0]; rfl
  clear hW0 hB0 hR0 hk0 hq0 ho0 hen
  go_region_held3 (fun W => (∀ (b o : Nat), b < W0.heap.size → W.cell? ⟨b, o, none⟩ = W0.cell? ⟨b, o, none⟩) ∧ W.rangeAt (w.heap.size + 1) 0 (q.1.map bv) ∧ (Instr.lookup 76 (.map (some B)) (.agg (q.1.map bv).toArray) true).run Try.prog W = .ok (.tuple #[.slice xA xn xc, .bool (!sb)]) W)
    (exact keepB (map_bel HB.out HB0.out) HK0.out (by rw [HXO.out, HXB.out]) (by (repeat (first | exact Below.refl _ _ | refine bg_al ?_ | refine bg_gr ?_ | refine bg_drn ?_ | refine bg_dr ?_ | assumption)))) (fail)
  go_wp2_with fail
  rw [rounds_succ]
  have HNY : ∀ (ops : Array Oper) (rest : List Oper) (o : Oper) (a : Act) (Q : Exit → Act → World → Prop) (hg : o.guard = none) (it : Operand) (hop : o.op = Op.next it false) (hit : a.eval it = .pointer (some ⟨w.heap.size, 0, none⟩))
      (hDone : wpList Try.prog ops Q rest (a.put o.dst (.tuple #[.bool false])) W0.drew), wpList Try.prog ops Q (o :: rest) a W0.drew := by
    intro ops rest o a Q hg it hop hit hDone
    exact wl_next hg it hop hit (show Ranging HC W0.drew N w.heap.size mN 1 (fun _ => False) cnt2 from HR0.out) (fun _ _ => hDone) (fun q' v w1 ob2 cnt' hl => hl.elim)
  have HNY' := Lib.hid HNY
  clear HNY
  go_wp2_with (at_next; refine HNY'.out _ _ _ _ _ rfl _ rfl rfl ?_)
  have hlen : ∀ k, (Builtin.len_ #[80] 3 #[.map (some N)]).run Try.prog (W0.drewN k) = .ok (.int .i64 1) (W0.drewN k) := fun k => lenO ((HR0.out.is).of_cell rfl)
  have hlen2 : ∀ k, (Builtin.len_ #[80] 3 #[.map (some N)]).run Try.prog (W0.drew.drewN k) = .ok (.int .i64 1) (W0.drew.drewN k) := fun k => lenO ((HR0.out.is).of_cell rfl)
  go_quiet (fail)
  go_wp2_with fail
  go_ret
  refine ⟨rfl, ?_⟩
  have hB0 := HB0.out
  (repeat (first | exact Below.refl _ _ | refine bg_al ?_ | refine bg_gr ?_ | refine bg_drn ?_ | refine bg_dr ?_ | assumption))
end Go.Proofs.Ytcbglojjbgenlaa
