/- Has the access changed anything? One access by no choice. What a device keeps, kept. A device behind an access. A device behind a Put. -/
import Derived.Test.YtcbglojjbgenlaaMdB
import Derived.Maps.RangeWalk
import Derived.Deep.DeepCutAuto
namespace Go.Proofs.Ytcbglojjbgenlaa
open Go.RowKit Go.MapL Go.ChangeMaps Go.MapKept
set_option linter.unusedSimpArgs false
set_option linter.unusedVariables false
attribute [local go_sem] size_gr cell_gr frozen_gr setCell_gr gr_drew gr_drewN lt_k lt_kc le_k le_kc sub_kc nil29 nil28 nil49 mkmap size_setBlock cell_setB
attribute [local go_sem ↓] Go.wp_at_zero Go.wp_at_succ

theorem lenO {w : World} {B n : Nat} {m : H32 → Option Value} (h : MapIs HC w B m n) : (Builtin.len_ #[80] 3 #[.map (some B)]).run Try.prog w = .ok (.int .i64 n) w := map_len h Try.underlying80
theorem ranging_zero {w : World} {B r n : Nat} {m : H32 → Option Value} {left : H32 → Prop} {cnt : Nat} (h : Ranging HC w B r m n left cnt) (hl : ∀ q, ¬ left q) : cnt = 0 := by
  rcases h.next 3 with ⟨h0, _⟩ | ⟨q, _, _, _, _, hq, _⟩
  · exact h0
  · exact absurd hq (hl q)

set_option maxHeartbeats 1000000 in
set_option maxRecDepth 8000 in
theorem changed_empty (D N nN : Nat) (f : Fd) (mN : H32 → Option Value) (w : World) (hD : DevAt w D f) (hfN : f.nb = .map (some N)) (hN : MapIs HC w N mN 0) (hem : ∀ q, mN q = none) (la lb : Bs) (hla : SB w f.nl la) (hlb : SB w f.log lb) :
    Calls Try.prog 44 #[.pointer (some ⟨D, 0, none⟩)] w fun e w' => e = .returned (.bool (!(la == lb))) ∧ Below w.heap.size w w' := by
  have HDq := Lib.hid hD
  obtain ⟨hc0, hc1, hc2, hc3, hc4, -, -, -, hc40, hc41, hc42, hc43⟩ := dev_c hD
  have hDlt : D < w.heap.size := World.block_lt_of_cell? w _ hc3
  rw [hfN] at hc42
  have HN := Lib.hid hN
  have HE := Lib.hid hem
  have HA := Lib.hid hla
  have HB := Lib.hid hlb
  clear hD hN hfN hem hla hlb
  go_enter Try.func44, Try.ntmps44
  go_wp2_with (first
    | (at_range; refine wl_range rfl _ _ rfl _ Try.underlying80 (by rfl) (HN.out) ?_; intro ob hrg; have HRG := Lib.hid hrg; clear hrg))
  refine wp_loop_rounds 1 ?_
  rw [rounds_succ]
  go_wp2_with (first
    | (at_next; refine wl_next rfl _ rfl (by rfl) HRG.out ?_ ?_))
  · intro _
    go_wp2_with fail
    refine with_world (fun W0 hW0 => ?_)
    have hB0 : Below w.heap.size w W0 := by rw [hW0]; (repeat (first | exact Below.refl _ _ | refine bg_al ?_ | refine bg_gr ?_ | refine bg_drn ?_ | refine bg_dr ?_ | assumption))
    have HB0 := Lib.hid hB0
    have z0 : D < W0.heap.size := by have := hB0.size; omega
    have k3 : W0.cell? ⟨D, 3, none⟩ = some f.log := by rw [hB0.cell (p := ⟨D, 3, none⟩) hDlt]; exact hc3
    have k42 : W0.cell? ⟨D, 42, none⟩ = some (.map (some N)) := by rw [hB0.cell (p := ⟨D, 42, none⟩) hDlt]; exact hc42
    have k43 : W0.cell? ⟨D, 43, none⟩ = some f.nl := by rw [hB0.cell (p := ⟨D, 43, none⟩) hDlt]; exact hc43
    clear hW0 hB0
    go_wp2_with fail
    go_region_held3 (fun W => (∀ (b o : Nat), b < W0.heap.size → W.cell? ⟨b, o, none⟩ = W0.cell? ⟨b, o, none⟩) ∧ (Builtin.len_ #[80] 3 #[.map (some N)]).run Try.prog W = .ok (.int .i64 0) W)
      (exact ⟨cellB (by (repeat (first | exact Below.refl _ _ | refine bg_al ?_ | refine bg_gr ?_ | refine bg_drn ?_ | refine bg_dr ?_ | assumption))), lenO ((map_bel HN.out HB0.out).of_cell ((show Below W0.heap.size W0 _ by (repeat (first | exact Below.refl _ _ | refine bg_al ?_ | refine bg_gr ?_ | refine bg_drn ?_ | refine bg_dr ?_ | assumption))).block N (map_bel HN.out HB0.out).lt))⟩)
      (first | (go_at_call 57; refine (beq_any _ _ la lb _ (HA.out.below (by have hB0 := HB0.out; (repeat (first | exact Below.refl _ _ | refine bg_al ?_ | refine bg_gr ?_ | refine bg_drn ?_ | refine bg_dr ?_ | assumption)))) (HB.out.below (by have hB0 := HB0.out; (repeat (first | exact Below.refl _ _ | refine bg_al ?_ | refine bg_gr ?_ | refine bg_drn ?_ | refine bg_dr ?_ | assumption))))).mono ?_; rintro en w2 ⟨rfl, n2, rfl⟩))
    go_wp2_with fail
    go_ret
    exact ⟨rfl, by have hB0 := HB0.out; (repeat (first | exact Below.refl _ _ | refine bg_al ?_ | refine bg_gr ?_ | refine bg_drn ?_ | refine bg_dr ?_ | assumption))⟩

theorem st_hash2 (W : World) (g : Nat) (q : H32) (c : Array Value) (o2 : Obj) (hg : W.heap.size = g) (hc : c.size = 32) :
    (storeCells ⟨g, 0, none⟩ (q.1.map bv) 0).run Try.prog ((W.alloc (.cells c 33)).alloc o2) = .ok () ((W.alloc (.cells (q.1.map bv).toArray 33)).alloc o2) := by
  subst hg
  have hb : ((W.alloc (.cells c 33)).alloc o2).heap[W.heap.size]? = some (.cells c 33 (0, 0)) := by
    rw [Below.heap_alloc _ _ _ (by simp), heap_alloc_last]
  rw [st_whole (c := c) (t := 33) hb (by rw [hc, q_len]) (by unfold OneC; exact all_oneCell_toArray (bv_one _))]
  congr 1
  simp only [World.setRow, World.alloc]
  congr 1
  apply Array.ext_getElem?
  intro i
  rw [Array.getElem?_modify]
  by_cases h : W.heap.size = i
  · subst h
    simp [Array.getElem?_push]
  · have h' : ¬ i = W.heap.size := fun e => h e.symm
    simp [h, h', Array.getElem?_push]
attribute [local go_sem] st_hash2

set_option maxHeartbeats 1000000 in
set_option maxRecDepth 8000 in
theorem changed_one (D B N nB : Nat) (f : Fd) (mB mN : H32 → Option Value) (q : H32) (w : World) (hD : DevAt w D f) (hfB : f.bm = .map (some B)) (hfN : f.nb = .map (some N)) (hB : MapIs HC w B mB nB) (hN : MapIs HC w N mN 1)
    (sA : Option Addr) (sn sc : Nat) (sb : Bool) (hq : mN q = some (.agg #[.slice sA sn sc, .bool sb])) (ho : ∀ q', q' ≠ q → mN q' = none) (xA : Option Addr) (xn xc : Nat) (hxo : (mB q).getD (.slice none 0 0) = .slice xA xn xc) (hxb : (mB q).isSome = !sb) :
    Calls Try.prog 44 #[.pointer (some ⟨D, 0, none⟩)] w fun e w' => e = .returned (.bool true) ∧ Below w.heap.size w w' := by
  have HDq := Lib.hid hD
  obtain ⟨hc0, hc1, hc2, hc3, hc4, -, -, -, hc40, hc41, hc42, hc43⟩ := dev_c hD
  have hDlt : D < w.heap.size := World.block_lt_of_cell? w _ hc3
  have hDN := (map_ne_cells hN hD).symm
  rw [hfN] at hc42
  rw [hfB] at hc2
  have HB := Lib.hid hB
  have HN := Lib.hid hN
  have HQ := Lib.hid hq
  have HO := Lib.hid ho
  have HXO := Lib.hid hxo
  have HXB := Lib.hid hxb
  have hql := q_len q
  have hqu := Try.underlying33
  have hqi := hash_info q
  have hsb : (!sb == sb) = false := by cases sb <;> rfl
  clear hD hB hN hfB hfN hq ho hxo hxb
  go_enter Try.func44, Try.ntmps44
  go_wp2_with (first
    | (at_range; refine wl_range rfl _ _ rfl _ Try.underlying80 (by rfl) (HN.out) ?_; intro ob hrg; have HRG := Lib.hid hrg; clear hrg))
  refine wp_loop_rounds 2 ?_
  rw [rounds_succ]
  have HNX : ∀ (ops : Array Oper) (rest : List Oper) (o : Oper) (a : Act) (Q : Exit → Act → World → Prop) (hg : o.guard = none) (it : Operand) (hop : o.op = Op.next it false) (hit : a.eval it = .pointer (some ⟨w.heap.size, 0, none⟩))
      (hMore : ∀ w1 ob2 cnt', (w1 = w.alloc ob ∨ w1 = (w.alloc ob).drew) → Hid (Ranging HC (setBlock w1 w.heap.size ob2) N w.heap.size mN 1 (fun _ => False) cnt') →
        (Instr.entry (.pointer (some ⟨w.heap.size, 0, none⟩))).run Try.prog (setBlock w1 w.heap.size ob2) = .ok (.tuple #[.agg (q.1.map bv).toArray, .agg #[.slice sA sn sc, .bool sb]]) (setBlock w1 w.heap.size ob2) →
        wpList Try.prog ops Q rest (a.put o.dst (.tuple #[.bool true, .agg (q.1.map bv).toArray, .agg #[.slice sA sn sc, .bool sb]])) (setBlock w1 w.heap.size ob2)), wpList Try.prog ops Q (o :: rest) a (w.alloc ob) := by
    intro ops rest o a Q hg it hop hit hMore
    refine wl_next hg it hop hit HRG.out ?_ ?_
    · intro _ hl
      exact absurd (by rw [HQ.out]; rfl) (hl q)
    · intro q' v w1 ob2 cnt' hl hv' hw hr _ hen
      have hqq : q' = q := Classical.byContradiction fun h => by
        have := HO.out q' h
        rw [this] at hv'
        cases hv'
      subst hqq
      rw [HQ.out] at hv'
      injection hv' with hv'
      subst hv'
      refine hMore w1 ob2 cnt' hw (Lib.hid ?_) hen
      obtain ⟨es, clk, since, seen, c0, z1, z2, z3, z4, z5, z6, z7, z8, z9, z10, z11⟩ := hr
      refine ⟨es, clk, since, seen, c0, z1, z2, z3, z4, z5, z6, z7, z8, z9, z10, fun q2 => ?_⟩
      rw [← z11 q2]
      constructor
      · exact fun h => h.elim
      · rintro ⟨h1, h2⟩
        have := HO.out q2 h2
        simp only [this] at h1
        cases h1
  have HNX' := Lib.hid HNX
  clear HNX
  go_wp2_with (at_next; refine HNX'.out _ _ _ _ _ rfl _ rfl rfl ?_; intro w1 ob2 cnt2 hw1 HR2 hen; have hz1 : w1.heap.size = w.heap.size + 1 := (by rcases hw1 with rfl | rfl <;> simp); have HC1 : Hid (Chg (fun k => k = w.heap.size) w (setBlock w1 w.heap.size ob2)) := Lib.hid (chg_setB (S := fun k => k = w.heap.size) (by rcases hw1 with rfl | rfl <;> exact Below.chg _ (by (repeat (first | exact Below.refl _ _ | refine bg_al ?_ | refine bg_gr ?_ | refine bg_drn ?_ | refine bg_dr ?_ | assumption)))) rfl ob2); clear hw1)
  refine with_world (fun W0 hW0 => ?_)
  have hB0 : Below w.heap.size w W0 := by rw [hW0]; exact bg_al (bg_al (chg_below HC1.out (fun k hk h => by omega)))
  have HB0 := Lib.hid hB0
  have hR0 : Ranging HC W0 N w.heap.size mN 1 (fun _ => False) cnt2 := by
    rw [hW0]
    have h1 := HR2.out.is.lt
    have h2 := HR2.out.lt
    exact HR2.out.of_cells (by rw [Below.heap_alloc _ _ _ (by rw [World.size_alloc]; omega), Below.heap_alloc _ _ _ h1]) (by rw [Below.heap_alloc _ _ _ (by rw [World.size_alloc]; omega), Below.heap_alloc _ _ _ h2])
  have HR0 := Lib.hid hR0
  have hk0 : W0.heap[w.heap.size + 1]? = some (.cells (q.1.map bv).toArray 33 (0, 0)) := by
    rw [hW0, Below.heap_alloc _ _ _ (by simp [size_setBlock, hz1])]
    have : (setBlock w1 w.heap.size ob2).heap.size = w.heap.size + 1 := by rw [size_setBlock, hz1]
    rw [← this]
    exact heap_alloc_last _ _
  have hq0 : W0.rangeAt (w.heap.size + 1) 0 (q.1.map bv) := range_blk hk0 0 _ (fun j v h => by simpa using h)
  have HK0 := Lib.hid hq0
  have ho0 : W0.heap[w.heap.size + 2]? = some (.cells #[.slice sA sn sc, .bool sb] 112 (0, 0)) := by
    have : ((setBlock w1 w.heap.size ob2).alloc (.cells (q.1.map bv).toArray 33)).heap.size = w.heap.size + 2 := by rw [World.size_alloc, size_setBlock, hz1]
    rw [hW0, ← this]
    exact heap_alloc_last _ _
  have z0 : D < W0.heap.size := by have := hB0.size; omega
  have z2 : w.heap.size + 2 < W0.heap.size := (Array.getElem?_eq_some_iff.1 ho0).1
  have k2 : W0.cell? ⟨D, 2, none⟩ = some (.map (some B)) := by rw [hB0.cell (p := ⟨D, 2, none⟩) hDlt]; exact hc2
  have k42 : W0.cell? ⟨D, 42, none⟩ = some (.map (some N)) := by rw [hB0.cell (p := ⟨D, 42, none⟩) hDlt]; exact hc42
  have k00 : W0.cell? ⟨w.heap.size + 2, 0, none⟩ = some (.slice sA sn sc) := by rw [cell_of_row _ _ _ _ _ _ ho0]; rfl
  have k01 : W0.cell? ⟨w.heap.size + 2, 1, none⟩ = some (.bool sb) := by rw [cell_of_row _ _ _ _ _ _ ho0]; rfl
  clear hW0 hB0 hR0 hk0 hq0 ho0 hen
  go_region_held3 (fun W => (∀ (b o : Nat), b < W0.heap.size → W.cell? ⟨b, o, none⟩ = W0.cell? ⟨b, o, none⟩) ∧ W.rangeAt (w.heap.size + 1) 0 (q.1.map bv) ∧ (Instr.lookup 76 (.map (some B)) (.agg (q.1.map bv).toArray) true).run Try.prog W = .ok (.tuple #[.slice xA xn xc, .bool (!sb)]) W)
    (exact keepB (map_bel HB.out HB0.out) HK0.out (by rw [HXO.out, HXB.out]) (by (repeat (first | exact Below.refl _ _ | refine bg_al ?_ | refine bg_gr ?_ | refine bg_drn ?_ | refine bg_dr ?_ | assumption)))) (fail)
  go_wp2_with fail
  rw [rounds_succ]
  have HNY : ∀ (ops : Array Oper) (rest : List Oper) (o : Oper) (a : Act) (Q : Exit → Act → World → Prop) (hg : o.guard = none) (it : Operand) (hop : o.op = Op.next it false) (hit : a.eval it = .pointer (some ⟨w.heap.size, 0, none⟩))
      (hDone : wpList Try.prog ops Q rest (a.put o.dst (.tuple #[.bool false])) W0.drew), wpList Try.prog ops Q (o :: rest) a W0.drew := by
    intro ops rest o a Q hg it hop hit hDone
    exact wl_next hg it hop hit (show Ranging HC W0.drew N w.heap.size mN 1 (fun _ => False) cnt2 from HR0.out) (fun _ _ => hDone) (fun q' v w1 ob2 cnt' hl => hl.elim)
  have HNY' := Lib.hid HNY
  clear HNY
  go_wp2_with (at_next; refine HNY'.out _ _ _ _ _ rfl _ rfl rfl ?_)
  have hlen : ∀ k, (Builtin.len_ #[80] 3 #[.map (some N)]).run Try.prog (W0.drewN k) = .ok (.int .i64 1) (W0.drewN k) := fun k => lenO ((HR0.out.is).of_cell rfl)
  have hlen2 : ∀ k, (Builtin.len_ #[80] 3 #[.map (some N)]).run Try.prog (W0.drew.drewN k) = .ok (.int .i64 1) (W0.drew.drewN k) := fun k => lenO ((HR0.out.is).of_cell rfl)
  go_quiet (fail)
  go_wp2_with fail
  go_ret
  refine ⟨rfl, ?_⟩
  have hB0 := HB0.out
  (repeat (first | exact Below.refl _ _ | refine bg_al ?_ | refine bg_gr ?_ | refine bg_drn ?_ | refine bg_dr ?_ | assumption))
end Go.Proofs.Ytcbglojjbgenlaa
namespace Go.Proofs.Ytcbglojjbgenlaa
open Go.RowKit Go.MapL Go.ChangeMaps Go.MapKept
set_option linter.unusedSimpArgs false
set_option linter.unusedVariables false
attribute [local go_sem] size_gr cell_gr frozen_gr setCell_gr gr_drew gr_drewN lt_k lt_kc le_k le_kc sub_kc nil29 nil28 nil49 mkmap size_setBlock cell_setB
attribute [local go_sem ↓] Go.wp_at_zero Go.wp_at_succ

/-- (*Device).honest as a value -/
abbrev hfun : Value := .func (.func 50) #[] #[]
theorem st_fun (W : World) (a : Addr) (h : (W.cell? a).isSome = true) (hf : W.frozen? a = false) : (store a (.func (.func 50) #[] #[])).run Try.prog W = .ok () (W.setCell a (.func (.func 50) #[] #[])) := by
  obtain ⟨u, hu⟩ := Option.isSome_iff_exists.1 h
  rw [run_store Try.prog W a _ _ (by rfl), hu]
  simp [hf]
attribute [local go_sem] st_fun
theorem manner_zero (w : World) : Calls Try.prog 43 #[.int .i64 0] w fun e w' => e = .returned (.agg #[hfun, hfun]) ∧ Below w.heap.size w w' := by
  have hone : (Value.func (.func 50) #[] #[]).oneCell' = true := rfl
  go_enter Try.func43, Try.ntmps43
  go_wp2_with fail
  refine bodyPost_ret (results_cell1 Try.results43 rfl (loadVar_blk (c := #[hfun, hfun]) (t' := 106) (fr := (0, 0)) ?_ Try.underlying106 rfl (by kernel_rfl))) rfl ?_
  · exact heap_alloc_last _ _
  · exact ⟨rfl, by (repeat (first | exact Below.refl _ _ | refine bg_al ?_ | refine bg_gr ?_ | refine bg_drn ?_ | refine bg_dr ?_ | assumption))⟩
theorem honest_any (vd va : Value) (cs : Array Value) (w : World) (R : Value → World → Prop) (h : Calls Try.prog 62 #[vd, va] (w.alloc (.cells cs 27)) fun e w' => ∃ r, e = .returned (.int .i64 r) ∧ R (.int .i64 r) w') :
    Calls Try.prog 50 #[vd, va, .agg cs] w fun e w' => ∃ r, e = .returned (.int .i64 r) ∧ R (.int .i64 r) w' := by
  have H := Lib.hid h
  clear h
  go_enter Try.func50, Try.ntmps50
  go_wp2_with (go_at_call 62; refine H.out.mono ?_; rintro en w1 ⟨r, rfl, hr⟩; have HR := Lib.hid hr; clear hr)
  go_ret
  exact ⟨r, rfl, HR.out⟩

/-- What stands when an access has been done, ahead of the notes on it. -/
structure AccIn (D A : Nat) (kind : Int) (na np : Nat) (ca cp : List Value) (W : World) (f : Fd) (N : Nat) (lA : Option Addr) (ln lc : Nat) : Prop where
  dev : DevAt W D f
  nb : f.nb = .map (some N)
  nl : f.nl = .slice lA ln lc
  racc : ∃ aA ac, f.acc = .slice aA na ac ∧ W.ownsRow 0 95 3 f.acc na ca
  rpast : ∃ pA pc, f.past = .slice pA np pc ∧ W.ownsRow 0 82 2 f.past np cp
  deed : ∃ q da ks n cnt tag, DeedAt W A kind q da ks n cnt tag

/-- .. and behind them. -/
def AccOut (D A : Nat) (kind r : Int) (na np : Nat) (ca cp : List Value) (ch : Bool) (Q : World → Fd → Prop) (w' : World) : Prop :=
  ∃ w2 f2 av pv, Q w2 f2 ∧ DevAt w2 D f2 ∧ DevAt w' D { f2 with acc := av, past := pv } ∧ w'.ownsRow 0 95 3 av (na + 1) (ca ++ [.int .i64 kind, .int .i64 0, .bool (r == 0)]) ∧
    w'.ownsRow 0 82 2 pv (if ch then np + 1 else np) (if ch then cp ++ [f2.nb, f2.nl] else cp) ∧
    Chg (fun k => k = D ∨ f2.acc.ownBlock = some k ∨ f2.past.ownBlock = some k) w2 w' ∧
    (av.ownBlock = f2.acc.ownBlock ∨ ∃ k, w2.heap.size ≤ k ∧ av.ownBlock = some k) ∧ (pv.ownBlock = f2.past.ownBlock ∨ ∃ k, w2.heap.size ≤ k ∧ pv.ownBlock = some k)
theorem ap_dev {w w' : World} {base : Nat} {e : TypeId} {size : Nat} {v v' : Value} {n m : Nat} {xs ys : List Value} {D : Nat} {f : Fd} (h : Appended w base e size v n xs w' v') (hv : w.ownsRow base e size v m ys) (he : e ≠ 84) (hD : DevAt w D f) : DevAt w' D f := by
  refine (h.2.1.block D (Array.getElem?_eq_some_iff.1 hD).1 (fun eq => ?_)).trans hD
  rcases hv.2 with ⟨rfl, _⟩ | ⟨g, cap, cur, rfl, _, hg, _⟩
  · simp [Value.ownBlock] at eq
  · simp only [Value.ownBlock, Option.some.injEq] at eq
    subst eq
    unfold DevAt at hD
    rw [hD] at hg
    injection hg with hg
    injection hg with _ hg
    exact he hg.symm
theorem row_ne_dev {w : World} {base : Nat} {e : TypeId} {size : Nat} {v : Value} {m : Nat} {ys : List Value} {D : Nat} {f : Fd} (hv : w.ownsRow base e size v m ys) (he : e ≠ 84) (hD : DevAt w D f) : ∀ k, v.ownBlock = some k → k ≠ D := by
  rintro k hk rfl
  rcases hv.2 with ⟨rfl, _⟩ | ⟨g, cap, cur, rfl, _, hg, _⟩
  · simp [Value.ownBlock] at hk
  · simp only [Value.ownBlock, Option.some.injEq] at hk
    subst hk
    unfold DevAt at hD
    rw [hD] at hg
    injection hg with hg
    injection hg with _ hg
    exact he hg.symm
theorem row_ne_row {w : World} {base base' : Nat} {e e' : TypeId} {size size' : Nat} {v v' : Value} {m m' : Nat} {ys ys' : List Value} (hv : w.ownsRow base e size v m ys) (hv' : w.ownsRow base' e' size' v' m' ys') (he : e ≠ e') : ∀ k, v.ownBlock = some k → v'.ownBlock ≠ some k := by
  intro k hk hk'
  rcases hv.2 with ⟨rfl, _⟩ | ⟨g, cap, cur, rfl, _, hg, _⟩
  · simp [Value.ownBlock] at hk
  · rcases hv'.2 with ⟨rfl, _⟩ | ⟨g', cap', cur', rfl, _, hg', _⟩
    · simp [Value.ownBlock] at hk'
    · simp only [Value.ownBlock, Option.some.injEq] at hk hk'
      subst hk hk'
      rw [hg] at hg'
      injection hg' with hg'
      injection hg' with _ hg'
      exact he hg'
theorem dev_set42 {w : World} {D : Nat} {f : Fd} (h : DevAt w D f) (v : Value) : DevAt (w.setCell ⟨D, 42, none⟩ v) D { f with nb := v } := by
  unfold DevAt
  rw [setCell_row h]
  congr 2
  apply Array.ext'
  rw [Array.toList_setIfInBounds]
  have e : ∀ (u : Value), devC { f with nb := u } = ([.int .i64 f.slots, .int .i64 f.room, f.bm, f.log, .int .i64 f.cnt] ++ f.tag.1.map bv ++ [.bool f.down, f.cho, f.acc, f.vers, f.past]) ++ u :: [f.nl] := fun u => by simp [devC]
  rw [show devC f = devC { f with nb := f.nb } from rfl, e f.nb, e v]
  show List.set _ 42 v = _
  rw [List.set_append_right _ _ (by simp [f.tag.2])]
  simp [f.tag.2]
theorem dev_set43 {w : World} {D : Nat} {f : Fd} (h : DevAt w D f) (v : Value) : DevAt (w.setCell ⟨D, 43, none⟩ v) D { f with nl := v } := by
  unfold DevAt
  rw [setCell_row h]
  congr 2
  apply Array.ext'
  rw [Array.toList_setIfInBounds]
  have e : ∀ (u : Value), devC { f with nl := u } = ([.int .i64 f.slots, .int .i64 f.room, f.bm, f.log, .int .i64 f.cnt] ++ f.tag.1.map bv ++ [.bool f.down, f.cho, f.acc, f.vers, f.past, f.nb]) ++ u :: [] := fun u => by simp [devC]
  rw [show devC f = devC { f with nl := f.nl } from rfl, e f.nl, e v]
  show List.set _ 43 v = _
  rw [List.set_append_right _ _ (by simp [f.tag.2])]
  simp [f.tag.2]
theorem dev_set41 {w : World} {D : Nat} {f : Fd} (h : DevAt w D f) (v : Value) : DevAt (w.setCell ⟨D, 41, none⟩ v) D { f with past := v } := by
  unfold DevAt
  rw [setCell_row h]
  congr 2
  apply Array.ext'
  rw [Array.toList_setIfInBounds]
  have e : ∀ (u : Value), devC { f with past := u } = ([.int .i64 f.slots, .int .i64 f.room, f.bm, f.log, .int .i64 f.cnt] ++ f.tag.1.map bv ++ [.bool f.down, f.cho, f.acc, f.vers]) ++ u :: [f.nb, f.nl] := fun u => by simp [devC]
  rw [show devC f = devC { f with past := f.past } from rfl, e f.past, e v]
  show List.set _ 41 v = _
  rw [List.set_append_right _ _ (by simp [f.tag.2])]
  simp [f.tag.2]
theorem dev_set39 {w : World} {D : Nat} {f : Fd} (h : DevAt w D f) (v : Value) : DevAt (w.setCell ⟨D, 39, none⟩ v) D { f with acc := v } := by
  unfold DevAt
  rw [setCell_row h]
  congr 2
  apply Array.ext'
  rw [Array.toList_setIfInBounds]
  have e : ∀ (u : Value), devC { f with acc := u } = ([.int .i64 f.slots, .int .i64 f.room, f.bm, f.log, .int .i64 f.cnt] ++ f.tag.1.map bv ++ [.bool f.down, f.cho]) ++ u :: [f.vers, f.past, f.nb, f.nl] := fun u => by simp [devC]
  rw [show devC f = devC { f with acc := f.acc } from rfl, e f.acc, e v]
  show List.set _ 39 v = _
  rw [List.set_append_right _ _ (by simp [f.tag.2])]
  simp [f.tag.2]

theorem AccIn.kind {D A : Nat} {kind : Int} {na np : Nat} {ca cp : List Value} {W : World} {f : Fd} {N : Nat} {lA : Option Addr} {ln lc : Nat} (h : AccIn D A kind na np ca cp W f N lA ln lc) : W.cell? ⟨A, 0, none⟩ = some (.int .i64 kind) := by
  obtain ⟨_, _, _, _, _, _, h⟩ := h.deed
  exact (deed_c h).1
theorem deed_not {w2 w3 : World} {D A : Nat} {kind : Int} {na np : Nat} {ca cp : List Value} {f : Fd} {N : Nat} {lA : Option Addr} {ln lc : Nat} (h : AccIn D A kind na np ca cp w2 f N lA ln lc) (hb : Below w2.heap.size w2 w3) : ∀ c t fr, w3.heap[A]? = some (.cells c t fr) → t ≠ 82 := by
  obtain ⟨_, _, _, _, _, _, h⟩ := h.deed
  have h3 := deed_bel h hb
  intro c t fr hc
  unfold DeedAt at h3
  rw [h3] at hc
  injection hc with hc
  injection hc with _ hc
  rw [← hc]
  decide
theorem acc_fin {D A : Nat} {kind r : Int} {na np np' : Nat} {ca cp cp' : List Value} {ch : Bool} {Q : World → Fd → Prop} {w2 w5 w9 : World} {f2 : Fd} {pv vo v9 : Value} {o : Obj} (hQ : Q w2 f2) (hd2 : DevAt w2 D f2) (hd5 : DevAt w5 D { f2 with past := pv }) (ha : f2.acc = vo)
    (hra : w5.ownsRow 0 95 3 vo na ca) (hrp : w5.ownsRow 0 82 2 pv np' cp') (hnp : np' = if ch then np + 1 else np) (hcp : cp' = if ch then cp ++ [f2.nb, f2.nl] else cp) (hc : Chg (fun k => k = D ∨ f2.acc.ownBlock = some k ∨ f2.past.ownBlock = some k) w2 w5)
    (hap : Appended (w5.alloc o).drew 0 95 3 vo (na + 1) (ca ++ [.int .i64 kind, .int .i64 0, .bool (r == 0)]) w9 v9) (hpn : pv.ownBlock = f2.past.ownBlock ∨ ∃ k, w2.heap.size ≤ k ∧ pv.ownBlock = some k) :
    AccOut D A kind r na np ca cp ch Q (w9.setCell ⟨D, 39, none⟩ v9) := by
  subst hnp hcp
  have hb5 : Below w5.heap.size w5 (w5.alloc o).drew := bg_dr (bg_al (Below.refl _ _))
  have hd9 := ap_dev hap (own_below hra hb5) (by decide) (dev_bel hd5 hb5)
  have hrp9 := own_chg (own_below hrp hb5) (grown_chg (S := fun k => vo.ownBlock = some k) (Chg.refl _ _) hap.2.1 (fun k hk => hk)) (fun k hk => row_ne_row hrp hra (by decide) k hk)
  refine ⟨w2, f2, v9, pv, hQ, hd2, dev_set39 hd9 v9, ?_, ?_, ?_, ?_, hpn⟩
  · exact own_chg (S := fun k => k = D) hap.1 (chg_set (S := fun k => k = D) (Chg.refl _ _) rfl _) (row_ne_dev hap.1 (by decide) hd9)
  · exact own_chg (S := fun k => k = D) hrp9 (chg_set (S := fun k => k = D) (Chg.refl _ _) rfl _) (row_ne_dev hrp9 (by decide) hd9)
  · refine chg_set (S := fun k => k = D ∨ f2.acc.ownBlock = some k ∨ f2.past.ownBlock = some k) (grown_chg (hc.trans (Below.chg _ hb5)) hap.2.1 (fun k hk => Or.inr (Or.inl (ha ▸ hk)))) (Or.inl rfl) _
  · rcases hap.2.2 with ⟨h, _⟩ | ⟨h, _⟩
    · exact Or.inl (h.trans (by rw [ha]))
    · refine Or.inr ⟨_, ?_, h⟩
      have h1 := hc.size
      have h2 := hb5.size
      omega
theorem past_fin {D A : Nat} {na np : Nat} {ca cp : List Value} {w2 w3 w9 : World} {f2 : Fd} {vo aA : Value} {g9 c9 : Nat} {o : Obj} (hd2 : DevAt w2 D f2) (hb3 : Below w2.heap.size w2 w3) (hp : f2.past = vo) (haa : f2.acc = aA)
    (hra : w3.ownsRow 0 95 3 aA na ca) (hrp : w3.ownsRow 0 82 2 vo np cp) (hap : Appended (w3.alloc o).drew 0 82 2 vo (np + 1) (cp ++ [f2.nb, f2.nl]) w9 (.slice (some ⟨g9, 0, none⟩) (np + 1) c9))
    (k0 : Int) (hk0 : w3.cell? ⟨A, 0, none⟩ = some (.int .i64 k0)) (hAk : ∀ c t fr, w3.heap[A]? = some (.cells c t fr) → t ≠ 82) (hAD : A ≠ D) (C : Nat) (hC : w3.heap[C]? = some (.cells #[.int .i64 0, .int .i64 0, .int .i64 0] 27 (0, 0))) (hCD : C ≠ D) :
    DevAt (w9.setCell ⟨D, 41, none⟩ (.slice (some ⟨g9, 0, none⟩) (np + 1) c9)) D { f2 with past := .slice (some ⟨g9, 0, none⟩) (np + 1) c9 } ∧
    (w9.setCell ⟨D, 41, none⟩ (.slice (some ⟨g9, 0, none⟩) (np + 1) c9)).ownsRow 0 95 3 aA na ca ∧
    (w9.setCell ⟨D, 41, none⟩ (.slice (some ⟨g9, 0, none⟩) (np + 1) c9)).ownsRow 0 82 2 (.slice (some ⟨g9, 0, none⟩) (np + 1) c9) (np + 1) (cp ++ [f2.nb, f2.nl]) ∧
    (w9.setCell ⟨D, 41, none⟩ (.slice (some ⟨g9, 0, none⟩) (np + 1) c9)).cell? ⟨A, 0, none⟩ = some (.int .i64 k0) ∧
    (w9.setCell ⟨D, 41, none⟩ (.slice (some ⟨g9, 0, none⟩) (np + 1) c9)).heap[C]? = some (.cells #[.int .i64 0, .int .i64 0, .int .i64 0] 27 (0, 0)) ∧
    Chg (fun k => k = D ∨ f2.acc.ownBlock = some k ∨ f2.past.ownBlock = some k) w2 (w9.setCell ⟨D, 41, none⟩ (.slice (some ⟨g9, 0, none⟩) (np + 1) c9)) ∧
    ((Value.slice (some ⟨g9, 0, none⟩) (np + 1) c9).ownBlock = f2.past.ownBlock ∨ ∃ k, w2.heap.size ≤ k ∧ (Value.slice (some ⟨g9, 0, none⟩) (np + 1) c9).ownBlock = some k) := by
  have hb5 : Below w3.heap.size w3 (w3.alloc o).drew := bg_dr (bg_al (Below.refl _ _))
  have hd9 := ap_dev hap (own_below hrp hb5) (by decide) (dev_bel (dev_bel hd2 hb3) hb5)
  have c9' : Chg (fun k => vo.ownBlock = some k) w3 w9 := grown_chg (Below.chg _ hb5) hap.2.1 (fun k hk => hk)
  have hra9 := own_chg hra c9' (fun k hk => row_ne_row hra hrp (by decide) k hk)
  have hA : ∃ c t fr, w3.heap[A]? = some (.cells c t fr) := by
    unfold World.cell? at hk0
    split at hk0
    · rename_i cs t fr h
      exact ⟨cs, t, fr, h⟩
    · cases hk0
  obtain ⟨c, t, fr, hA⟩ := hA
  have hAv : vo.ownBlock ≠ some A := fun e => by
    rcases hrp.2 with ⟨rfl, _⟩ | ⟨g, cap, cur, rfl, _, hg, _⟩
    · simp [Value.ownBlock] at e
    · simp only [Value.ownBlock, Option.some.injEq] at e
      subst e
      rw [hA] at hg
      injection hg with hg
      injection hg with _ hg
      exact hAk _ _ _ hA hg
  have hCv : vo.ownBlock ≠ some C := fun e => by
    rcases hrp.2 with ⟨rfl, _⟩ | ⟨g, cap, cur, rfl, _, hg, _⟩
    · simp [Value.ownBlock] at e
    · simp only [Value.ownBlock, Option.some.injEq] at e
      subst e
      rw [hC] at hg
      injection hg with hg
      injection hg with _ hg
      exact absurd hg (by decide)
  refine ⟨dev_set41 hd9 _, ?_, ?_, ?_, ?_, ?_, ?_⟩
  · exact own_chg (S := fun k => k = D) hra9 (chg_set (S := fun k => k = D) (Chg.refl _ _) rfl _) (row_ne_dev hra9 (by decide) hd9)
  · exact own_chg (S := fun k => k = D) hap.1 (chg_set (S := fun k => k = D) (Chg.refl _ _) rfl _) (row_ne_dev hap.1 (by decide) hd9)
  · rw [World.cell?_of_block ((heap_set_ne w9 _ hAD).trans (c9'.block A (Array.getElem?_eq_some_iff.1 hA).1 hAv))]
    exact hk0
  · exact ((heap_set_ne w9 _ hCD).trans (c9'.block C (Array.getElem?_eq_some_iff.1 hC).1 hCv)).trans hC
  · exact chg_set (S := fun k => k = D ∨ f2.acc.ownBlock = some k ∨ f2.past.ownBlock = some k) ((Below.chg _ hb3).trans (c9'.mono (fun k _ h => Or.inr (Or.inr (hp ▸ h))))) (Or.inl rfl) _
  · rcases hap.2.2 with ⟨h, _⟩ | ⟨h, _⟩
    · exact Or.inl (h.trans (by rw [hp]))
    · refine Or.inr ⟨_, ?_, h⟩
      have h1 := hb3.size
      have h2 := hb5.size
      omega
end Go.Proofs.Ytcbglojjbgenlaa
namespace Go.Proofs.Ytcbglojjbgenlaa
open Go.RowKit Go.MapL Go.ChangeMaps Go.MapKept
set_option linter.unusedSimpArgs false
set_option linter.unusedVariables false

variable {w w' : World} {S F F' X : Nat → Prop}

theorem isBytes_chg {k : Nat} (h : isBytes w k) (hc : Chg S w w') (hs : ¬ S k) : isBytes w' k := by
  obtain ⟨cs, fr, hk⟩ := h
  exact ⟨cs, fr, (hc.block k (Array.getElem?_eq_some_iff.1 hk).1 hs).trans hk⟩
theorem DB.chg {v : Value} {l : Bs} (h : DB w F v l) (hc : Chg S w w') (hs : ∀ k, isBytes w k → ¬ S k) : DB w' F v l := by
  obtain ⟨⟨A, c, rfl, hr, h1, h2, h3⟩, hk⟩ := h
  refine ⟨⟨A, c, rfl, ?_, h1, h2, h3⟩, fun k hv => ⟨(hk k hv).1, isBytes_chg (hk k hv).2 hc (hs k (hk k hv).2)⟩⟩
  refine hr.chg hc (fun a ha => ?_)
  subst ha
  exact hs _ (hk a.block rfl).2
theorem DB.mono {v : Value} {l : Bs} (h : DB w F v l) (hF : ∀ k, F k → F' k) : DB w F' v l := ⟨h.1, fun k hv => ⟨hF k (h.2 k hv).1, (h.2 k hv).2⟩⟩
theorem DB.own {v : Value} {l : Bs} {base : Nat} (h : OwnB w base v l) (hF : ∀ k, base ≤ k → k < w.heap.size → F k) : DB w F v l :=
  ⟨h.sb, fun k hv => by obtain ⟨h1, h2, cs, fr, h3⟩ := own_vBlock h k hv; exact ⟨hF k h1 h2, cs, fr, h3⟩⟩
theorem OptR.imp {α β : Type} {R R' : α → β → Prop} (hi : ∀ a b, R a b → R' a b) : ∀ {x : Option α} {y : Option β}, OptR R x y → OptR R' x y
  | none, none, _ => trivial
  | some a, some b, h => hi a b h
  | none, some _, h => h.elim
  | some _, none, h => h.elim
theorem OptR.none {α β : Type} {R : α → β → Prop} {x : Option α} {y : Option β} (h : OptR R x y) : x.isSome = y.isSome := by
  cases x <;> cases y <;> first | rfl | exact h.elim
theorem OptR.some {α β : Type} {R : α → β → Prop} {x : Option α} {b : β} (h : OptR R x (some b)) : ∃ a, x = some a ∧ R a b := by
  cases x with
  | none => exact h.elim
  | some a => exact ⟨a, rfl, h⟩
theorem MapB.chg {B n : Nat} {bl : H32 → Option Bs} (h : MapB w F B bl n) (hc : Chg S w w') (hB : ¬ S B) (hs : ∀ k, isBytes w k → ¬ S k) (hF : ∀ k, F k → F' k) : MapB w' F' B bl n := by
  obtain ⟨mv, hm, hr⟩ := h
  exact ⟨mv, map_chg hm hc hB, fun q => (hr q).imp fun v l h => (h.chg hc hs).mono hF⟩
open Classical in
/-- one key told anew -/
noncomputable def updO {α : Type} (m : H32 → Option α) (q : H32) (x : Option α) : H32 → Option α := fun q' => if q' = q then x else m q'
open Classical in
noncomputable def updL {α : Type} (m : H32 → α) (q : H32) (x : α) : H32 → α := fun q' => if q' = q then x else m q'
theorem MapB.put {B n' : Nat} {bl : H32 → Option Bs} {mv : H32 → Option Value} {q : H32} {v : Value} {l : Bs} (hm : MapIs HC w' B (putV mv q v) n') (hr : ∀ q, OptR (DB w F) (mv q) (bl q)) (hc : Chg S w w') (hs : ∀ k, isBytes w k → ¬ S k) (hF : ∀ k, F k → F' k) (hv : DB w' F' v l) :
    MapB w' F' B (updO bl q (some l)) n' := by
  refine ⟨_, hm, fun q' => ?_⟩
  by_cases h : q' = q
  · subst h
    simp only [putV, updO, if_true]
    exact hv
  · simp only [putV, updO, if_neg h]
    exact (hr q').imp fun v l h => (h.chg hc hs).mono hF
theorem MapO.chg {B n : Nat} {o : H32 → Option (Option Bs)} (h : MapO w F B o n) (hc : Chg S w w') (hB : ¬ S B) (hs : ∀ k, isBytes w k → ¬ S k) (hF : ∀ k, F k → F' k) : MapO w' F' B o n := by
  obtain ⟨mv, hm, hr⟩ := h
  refine ⟨mv, map_chg hm hc hB, fun q => (hr q).imp fun v x h => ?_⟩
  obtain ⟨s, e, hd⟩ := h
  exact ⟨s, e, (hd.chg hc hs).mono hF⟩
theorem VerV.chg {v : Value} {ls : List Bs} (h : VerV w F v ls) (hc : Chg S w w') (hr : ∀ k, v.ownBlock = some k → ¬ S k) (hs : ∀ k, isBytes w k → ¬ S k) (hF : ∀ k, F k → F' k) : VerV w' F' v ls := by
  obtain ⟨vals, h1, h2, h3⟩ := h
  exact ⟨vals, own_chg h1 hc hr, fun i hi hi' => ((h2 i hi hi').chg hc hs).mono hF, fun k hk => hF k (h3 k hk)⟩
theorem MapV.chg {V : Nat} {vs : H32 → List Bs} (h : MapV w F V vs) (hc : Chg S w w') (hV : ¬ S V) (hr : ∀ k c fr, w.heap[k]? = some (.cells c 29 fr) → ¬ S k) (hs : ∀ k, isBytes w k → ¬ S k) (hF : ∀ k, F k → F' k) : MapV w' F' V vs := by
  obtain ⟨mv, n, hm, h1, h2⟩ := h
  refine ⟨mv, n, map_chg hm hc hV, fun q => ?_, h2⟩
  rcases h1 q with h | ⟨v, e, h⟩
  · exact .inl h
  · refine .inr ⟨v, e, h.chg hc (fun k hk => ?_) hs hF⟩
    obtain ⟨vals, ho, _⟩ := h
    rcases ho.2 with ⟨rfl, _⟩ | ⟨g, cap, cur, rfl, _, hg, _⟩
    · simp [Value.ownBlock] at hk
    · simp only [Value.ownBlock, Option.some.injEq] at hk
      subst hk
      exact hr _ _ _ hg
theorem ChoAt.chg {v : Value} {l : List Ch} (h : ChoAt w F v l) (hc : Chg S w w') (hs : ∀ k c fr, w.heap[k]? = some (.cells c 27 fr) → ¬ S k) (hF : ∀ k, F k → F' k) : ChoAt w' F' v l := by
  obtain ⟨⟨A, c, rfl, hr, h1⟩, hk⟩ := h
  refine ⟨⟨A, c, rfl, fun j hj => ?_, h1⟩, fun k hv => ?_⟩
  · obtain ⟨b, off, e, hcell⟩ := hr j hj
    subst e
    obtain ⟨_, cs, fr, hb⟩ := hk b rfl
    refine ⟨b, off, rfl, ?_⟩
    rw [World.cell?_of_block (hc.block b (World.block_lt_of_cell? w _ hcell) (hs _ _ _ hb))]
    exact hcell
  · obtain ⟨hf, cs, fr, hb⟩ := hk k hv
    exact ⟨hF k hf, cs, fr, (hc.block k (Array.getElem?_eq_some_iff.1 hb).1 (hs _ _ _ hb)).trans hb⟩
theorem PcAt.chg {a b : Value} {p : Pc} (h : PcAt w F X a b p) (hc : Chg S w w') (hm : ∀ k es clk, w.heap[k]? = some (.map es clk) → S k → X k) (hs : ∀ k, isBytes w k → ¬ S k) (hF : ∀ k, F k → F' k) : PcAt w' F' X a b p := by
  obtain ⟨N, rfl, h1, h2, h3, h4⟩ := h
  refine ⟨N, rfl, hF N h1, h2, h3.chg hc (fun hS => ?_) hs hF, (h4.chg hc hs).mono hF⟩
  obtain ⟨mv, ⟨es, clk, hb, _⟩, _⟩ := h3
  exact h2 (hm N es clk hb hS)

theorem flatMap_snoc {α β : Type} (f : α → List β) (l : List α) (x : α) : (l ++ [x]).flatMap f = l.flatMap f ++ f x := by simp

end Go.Proofs.Ytcbglojjbgenlaa
namespace Go.Proofs.Ytcbglojjbgenlaa
open Go.RowKit Go.MapL Go.ChangeMaps Go.MapKept
set_option linter.unusedSimpArgs false
set_option linter.unusedVariables false

def Grown (F : Nat → Prop) (w w' : World) : Nat → Prop := fun k => F k ∨ (w.heap.size ≤ k ∧ k < w'.heap.size)
theorem grown_old {F : Nat → Prop} {w w' : World} : ∀ k, F k → Grown F w w' k := fun _ h => Or.inl h
theorem own_heap {w : World} {base n size : Nat} {e : TypeId} {v : Value} {xs : List Value} (h : w.ownsRow base e size v n xs) {k : Nat} (hk : v.ownBlock = some k) : ∃ c fr, w.heap[k]? = some (.cells c e fr) := by
  rcases h.2 with ⟨rfl, _⟩ | ⟨g, cap, cur, rfl, _, hg, _⟩
  · simp [Value.ownBlock] at hk
  · simp only [Value.ownBlock, Option.some.injEq] at hk
    subst hk
    exact ⟨_, _, hg⟩
/-- the blocks that an access writes, but for maps and version rows -/
def Smal (D A : Nat) (av pv : Value) : Nat → Prop := fun k => k = D ∨ k = A ∨ av.ownBlock = some k ∨ pv.ownBlock = some k
section
variable {w : World} {D A : Nat} {f : Fd} {kind n cnt : Int} {q tag : H32} {da ks av pv : Value} {na np : Nat} {ca cp : List Value}
theorem smal_type (hD : DevAt w D f) (hA : DeedAt w A kind q da ks n cnt tag) (hra : w.ownsRow 0 95 3 av na ca) (hrp : w.ownsRow 0 82 2 pv np cp) {k : Nat} (hk : Smal D A av pv k) :
    ∃ c t fr, w.heap[k]? = some (.cells c t fr) ∧ (t = 84 ∨ t = 86 ∨ t = 95 ∨ t = 82) := by
  rcases hk with rfl | rfl | h | h
  · exact ⟨_, _, _, hD, Or.inl rfl⟩
  · exact ⟨_, _, _, hA, Or.inr (Or.inl rfl)⟩
  · obtain ⟨c, fr, h⟩ := own_heap hra h
    exact ⟨c, _, fr, h, Or.inr (Or.inr (Or.inl rfl))⟩
  · obtain ⟨c, fr, h⟩ := own_heap hrp h
    exact ⟨c, _, fr, h, Or.inr (Or.inr (Or.inr rfl))⟩
theorem smal_cells (hD : DevAt w D f) (hA : DeedAt w A kind q da ks n cnt tag) (hra : w.ownsRow 0 95 3 av na ca) (hrp : w.ownsRow 0 82 2 pv np cp) {k : Nat} {c : Array Value} {t : TypeId} {fr : Nat × Nat} (hk : w.heap[k]? = some (.cells c t fr))
    (ht : t ≠ 84 ∧ t ≠ 86 ∧ t ≠ 95 ∧ t ≠ 82) : ¬ Smal D A av pv k := fun hS => by
  obtain ⟨c', t', fr', h1, h2⟩ := smal_type hD hA hra hrp hS
  rw [hk] at h1
  injection h1 with h1
  injection h1 with _ h1
  subst h1
  rcases h2 with h | h | h | h
  · exact ht.1 h
  · exact ht.2.1 h
  · exact ht.2.2.1 h
  · exact ht.2.2.2 h
theorem smal_map (hD : DevAt w D f) (hA : DeedAt w A kind q da ks n cnt tag) (hra : w.ownsRow 0 95 3 av na ca) (hrp : w.ownsRow 0 82 2 pv np cp) {k : Nat} {es : Array MapEntry} {clk : Nat} (hk : w.heap[k]? = some (.map es clk)) : ¬ Smal D A av pv k := fun hS => by
  obtain ⟨c', t', fr', h1, h2⟩ := smal_type hD hA hra hrp hS
  rw [hk] at h1
  cases h1
theorem map_heap {B n : Nat} {m : H32 → Option Value} (h : MapIs HC w B m n) : ∃ es clk, w.heap[B]? = some (.map es clk) := by
  obtain ⟨es, clk, hb, _⟩ := h
  exact ⟨es, clk, hb⟩
end
/-- the rows of past changes, as cells -/
def pastC (vals : List (Value × Value)) : List Value := vals.flatMap fun x => [x.1, x.2]

/-- A device behind an access that changed neither blobs nor log. -/
theorem inv_same {w w' : World} {D A : Nat} {F : Nat → Prop} {d : Dv} {m : Mm} (hI : Core w D F (fun k => k = m.B ∨ k = m.V) d m) {kind n cnt : Int} {q tag : H32} {da ks : Value} (hA : DeedAt w A kind q da ks n cnt tag)
    (vals : List (Value × Value)) (hvl : vals.length = d.past.length) (hrp0 : w.ownsRow 0 82 2 m.pv d.past.length (pastC vals)) (hpc : ∀ i (h : i < d.past.length) (h' : i < vals.length), PcAt w F (fun k => k = m.B ∨ k = m.V) vals[i].1 vals[i].2 d.past[i]) (hpF : ∀ k, m.pv.ownBlock = some k → F k)
    (nb nl av pv : Value) (c : Ac)
    (hdev : DevAt w' D { fdOf d m with nb := nb, nl := nl, acc := av, past := pv }) (hra : w'.ownsRow 0 95 3 av (d.acc.length + 1) (d.acc.flatMap acC ++ acC c)) (hrp : w'.ownsRow 0 82 2 pv d.past.length (pastC vals))
    (hc : Chg (Smal D A m.av m.pv) w w') (hav : av.ownBlock = m.av.ownBlock ∨ ∃ k, w.heap.size ≤ k ∧ av.ownBlock = some k) (hpv : pv.ownBlock = m.pv.ownBlock ∨ ∃ k, w.heap.size ≤ k ∧ pv.ownBlock = some k) :
    Inv w' D (Grown F w w') { d with acc := d.acc ++ [c] } := by
  have hsb : ∀ k, isBytes w k → ¬ Smal D A m.av m.pv k := fun k ⟨cs, fr, hk⟩ => smal_cells hI.dev hA hI.acc.1 hrp0 hk (by decide)
  have hsm : ∀ k es clk, w.heap[k]? = some (.map es clk) → ¬ Smal D A m.av m.pv k := fun k es clk hk => smal_map hI.dev hA hI.acc.1 hrp0 hk
  have hB : ¬ Smal D A m.av m.pv m.B := by
    obtain ⟨mv, hm, _⟩ := hI.blobs
    obtain ⟨es, clk, h⟩ := map_heap hm
    exact hsm _ _ _ h
  have hV : ¬ Smal D A m.av m.pv m.V := by
    obtain ⟨mv, _, hm, _⟩ := hI.vers
    obtain ⟨es, clk, h⟩ := map_heap hm
    exact hsm _ _ _ h
  refine ⟨⟨m.B, m.V, m.lv, m.cv, av, pv, nb, nl⟩, hdev, grown_old _ hI.fD, grown_old _ hI.fB, grown_old _ hI.fV, Or.inl rfl, Or.inr rfl, hI.bv, ?_, ?_, ?_, ?_, ?_, ?_⟩
  · exact hI.blobs.chg hc hB hsb grown_old
  · exact hI.vers.chg hc hV (fun k c fr hk => smal_cells hI.dev hA hI.acc.1 hrp0 hk (by decide)) hsb grown_old
  · exact (hI.log.chg hc hsb).mono grown_old
  · exact hI.cho.chg hc (fun k c fr hk => smal_cells hI.dev hA hI.acc.1 hrp0 hk (by decide)) grown_old
  · refine ⟨?_, fun k hk => ?_⟩
    · show w'.ownsRow 0 95 3 av (d.acc ++ [c]).length ((d.acc ++ [c]).flatMap acC)
      rw [flatMap_snoc, List.length_append]
      exact hra
    · rcases hav with h | ⟨j, hj, h⟩
      · exact Or.inl (hI.acc.2 k (h ▸ hk))
      · rw [h] at hk
        injection hk with hk
        subst hk
        obtain ⟨_, _, hh⟩ := own_heap hra h
        exact Or.inr ⟨hj, (Array.getElem?_eq_some_iff.1 hh).1⟩
  · refine ⟨vals, hvl, hrp, fun i hi hi' => ?_, fun k hk => ?_⟩
    · exact (hpc i hi hi').chg hc (fun k es clk hk hS => absurd hS (hsm k es clk hk)) hsb grown_old
    · rcases hpv with h | ⟨j, hj, h⟩
      · exact Or.inl (hpF k (h ▸ hk))
      · rw [h] at hk
        injection hk with hk
        subst hk
        obtain ⟨_, _, hh⟩ := own_heap hrp h
        exact Or.inr ⟨hj, (Array.getElem?_eq_some_iff.1 hh).1⟩

theorem getElem_snoc {α : Type} (l : List α) (x : α) (i : Nat) (h : i < (l ++ [x]).length) : (∃ h' : i < l.length, (l ++ [x])[i] = l[i]) ∨ (i = l.length ∧ (l ++ [x])[i] = x) := by
  by_cases hi : i < l.length
  · exact Or.inl ⟨hi, List.getElem_append_left hi⟩
  · refine Or.inr ⟨by simp at h; omega, ?_⟩
    have : i = l.length := by simp at h; omega
    subst this
    simp

/-- .. that changed the log alone. -/
theorem inv_log {w w' : World} {D A : Nat} {F : Nat → Prop} {d : Dv} {m : Mm} (hI : Core w D F (fun k => k = m.B ∨ k = m.V) d m) {kind n cnt : Int} {q tag : H32} {da ks : Value} (hA : DeedAt w A kind q da ks n cnt tag)
    (vals : List (Value × Value)) (hvl : vals.length = d.past.length) (hrp0 : w.ownsRow 0 82 2 m.pv d.past.length (pastC vals)) (hpc : ∀ i (h : i < d.past.length) (h' : i < vals.length), PcAt w F (fun k => k = m.B ∨ k = m.V) vals[i].1 vals[i].2 d.past[i]) (hpF : ∀ k, m.pv.ownBlock = some k → F k)
    (N : Nat) (lv av pv : Value) (c : Ac) (l' : Bs) (hN : w.heap.size ≤ N) (hmN : MapIs HC w' N (fun _ => none) 0)
    (hdev : DevAt w' D { fdOf d m with log := lv, nb := .map (some N), nl := m.lv, acc := av, past := pv }) (hlv : DB w' (Grown F w w') lv l') (hra : w'.ownsRow 0 95 3 av (d.acc.length + 1) (d.acc.flatMap acC ++ acC c)) (hrp : w'.ownsRow 0 82 2 pv (d.past.length + 1) (pastC vals ++ [.map (some N), m.lv]))
    (hc : Chg (Smal D A m.av m.pv) w w') (hav : av.ownBlock = m.av.ownBlock ∨ ∃ k, w.heap.size ≤ k ∧ av.ownBlock = some k) (hpv : pv.ownBlock = m.pv.ownBlock ∨ ∃ k, w.heap.size ≤ k ∧ pv.ownBlock = some k) :
    Inv w' D (Grown F w w') { d with log := l', acc := d.acc ++ [c], past := d.past ++ [⟨fun _ => none, 0, d.log⟩] } := by
  have hsb : ∀ k, isBytes w k → ¬ Smal D A m.av m.pv k := fun k ⟨cs, fr, hk⟩ => smal_cells hI.dev hA hI.acc.1 hrp0 hk (by decide)
  have hsm : ∀ k es clk, w.heap[k]? = some (.map es clk) → ¬ Smal D A m.av m.pv k := fun k es clk hk => smal_map hI.dev hA hI.acc.1 hrp0 hk
  obtain ⟨mv, hmB, _⟩ := hI.blobs
  obtain ⟨mv2, _, hmV, _⟩ := hI.vers
  have hBl := hmB.lt
  have hVl := hmV.lt
  have hB : ¬ Smal D A m.av m.pv m.B := by
    obtain ⟨es, clk, h⟩ := map_heap hmB
    exact hsm _ _ _ h
  have hV : ¬ Smal D A m.av m.pv m.V := by
    obtain ⟨es, clk, h⟩ := map_heap hmV
    exact hsm _ _ _ h
  refine ⟨⟨m.B, m.V, lv, m.cv, av, pv, .map (some N), m.lv⟩, hdev, grown_old _ hI.fD, grown_old _ hI.fB, grown_old _ hI.fV, Or.inl rfl, Or.inr rfl, hI.bv, ?_, ?_, hlv, ?_, ?_, ?_⟩
  · exact hI.blobs.chg hc hB hsb grown_old
  · exact hI.vers.chg hc hV (fun k c fr hk => smal_cells hI.dev hA hI.acc.1 hrp0 hk (by decide)) hsb grown_old
  · exact hI.cho.chg hc (fun k c fr hk => smal_cells hI.dev hA hI.acc.1 hrp0 hk (by decide)) grown_old
  · refine ⟨?_, fun k hk => ?_⟩
    · show w'.ownsRow 0 95 3 av (d.acc ++ [c]).length ((d.acc ++ [c]).flatMap acC)
      rw [flatMap_snoc, List.length_append]
      exact hra
    · rcases hav with h | ⟨j, hj, h⟩
      · exact Or.inl (hI.acc.2 k (h ▸ hk))
      · rw [h] at hk
        injection hk with hk
        subst hk
        obtain ⟨_, _, hh⟩ := own_heap hra h
        exact Or.inr ⟨hj, (Array.getElem?_eq_some_iff.1 hh).1⟩
  · refine ⟨vals ++ [(.map (some N), m.lv)], by simp [hvl], ?_, fun i hi hi' => ?_, fun k hk => ?_⟩
    · rw [flatMap_snoc]
      show w'.ownsRow 0 82 2 pv (d.past ++ [_]).length _
      rw [List.length_append]
      exact hrp
    · rcases getElem_snoc d.past ⟨fun _ => none, 0, d.log⟩ i hi with ⟨h1, e1⟩ | ⟨h1, e1⟩
      · have h2 : i < vals.length := by omega
        have e2 : (vals ++ [(.map (some N), m.lv)])[i] = vals[i] := List.getElem_append_left h2
        show PcAt _ _ _ (vals ++ [(.map (some N), m.lv)])[i].1 (vals ++ [(.map (some N), m.lv)])[i].2 (d.past ++ [_])[i]
        rw [e1, e2]
        exact (hpc i h1 h2).chg hc (fun k es clk hk hS => absurd hS (hsm k es clk hk)) hsb grown_old
      · have h2 : i = vals.length := by omega
        have e2 : (vals ++ [(.map (some N), m.lv)])[i] = (.map (some N), m.lv) := by subst h2; simp
        show PcAt _ _ _ (vals ++ [(.map (some N), m.lv)])[i].1 (vals ++ [(.map (some N), m.lv)])[i].2 (d.past ++ [_])[i]
        rw [e1, e2]
        refine ⟨N, rfl, Or.inr ⟨hN, hmN.lt⟩, ?_, ⟨_, hmN, fun q => trivial⟩, (hI.log.chg hc hsb).mono grown_old⟩
        rintro (h | h)
        · dsimp only at h; omega
        · dsimp only at h; omega
    · rcases hpv with h | ⟨j, hj, h⟩
      · exact Or.inl (hpF k (h ▸ hk))
      · rw [h] at hk
        injection hk with hk
        subst hk
        obtain ⟨_, _, hh⟩ := own_heap hrp h
        exact Or.inr ⟨hj, (Array.getElem?_eq_some_iff.1 hh).1⟩
end Go.Proofs.Ytcbglojjbgenlaa
namespace Go.Proofs.Ytcbglojjbgenlaa
open Go.RowKit Go.MapL Go.ChangeMaps Go.MapKept
set_option linter.unusedSimpArgs false
set_option linter.unusedVariables false

theorem MapV.put {w w' : World} {F F' S : Nat → Prop} {V nV' : Nat} {mV : H32 → Option Value} {vs : H32 → List Bs} {q : H32} {vo v9 v : Value} {l : Bs} {vals9 : List Value}
    (h1 : ∀ q, (mV q = none ∧ vs q = []) ∨ ∃ v, mV q = some v ∧ VerV w F v (vs q)) (h2 : ∀ q q' v v' k, q ≠ q' → mV q = some v → mV q' = some v' → v.ownBlock = some k → v'.ownBlock ≠ some k)
    (hvo : (mV q).getD (.slice none 0 0) = vo) (hm : MapIs HC w' V (putV mV q v9) nV') (hown : w'.ownsRow 0 29 1 v9 ((vs q).length + 1) (vals9 ++ [v])) (hvals : w.ownsRow 0 29 1 vo (vs q).length vals9) (hv9 : ∀ i (h : i < (vs q).length) (h' : i < vals9.length), DB w F vals9[i] (vs q)[i])
    (hblk : v9.ownBlock = vo.ownBlock ∨ ∃ k, w.heap.size ≤ k ∧ v9.ownBlock = some k) (hv : DB w' F' v l)
    (hc : Chg S w w') (hS : ∀ k c fr, w.heap[k]? = some (.cells c 29 fr) → S k → vo.ownBlock = some k) (hs : ∀ k, isBytes w k → ¬ S k) (hF : ∀ k, F k → F' k) (hFn : ∀ k, w.heap.size ≤ k → k < w'.heap.size → F' k) :
    MapV w' F' V (updL vs q (vs q ++ [l])) := by
  have hvoF : ∀ k, vo.ownBlock = some k → F k := fun k hk => by
    rcases h1 q with ⟨e, _⟩ | ⟨v1, e, _, _, _, h⟩
    · rw [e] at hvo
      subst hvo
      simp [Value.ownBlock] at hk
    · rw [e] at hvo
      simp only [Option.getD_some] at hvo
      subst hvo
      exact h k hk
  have hother : ∀ q', q' ≠ q → ∀ v1, mV q' = some v1 → ∀ k, v1.ownBlock = some k → ¬ vo.ownBlock = some k := fun q' hq v1 e k hk hvk => by
    cases e2 : mV q with
    | none =>
      rw [e2] at hvo
      simp only [Option.getD_none] at hvo
      subst hvo
      simp [Value.ownBlock] at hvk
    | some v2 =>
      rw [e2] at hvo
      simp only [Option.getD_some] at hvo
      subst hvo
      exact h2 q' q v1 v2 k hq e e2 hk hvk
  have hlt : ∀ q' v1, mV q' = some v1 → ∀ k, v1.ownBlock = some k → k < w.heap.size := fun q' v1 e k hk => by
    rcases h1 q' with ⟨e', _⟩ | ⟨v2, e', vals, ho, _⟩
    · rw [e] at e'; cases e'
    · rw [e] at e'
      injection e' with e'
      subst e'
      obtain ⟨_, _, hh⟩ := own_heap ho hk
      exact (Array.getElem?_eq_some_iff.1 hh).1
  have h9 : ∀ q', q' ≠ q → ∀ v1, mV q' = some v1 → ∀ k, v1.ownBlock = some k → v9.ownBlock ≠ some k := fun q' hq v1 e k hk hk9 => by
    rcases hblk with h | ⟨j, hj, h⟩
    · exact hother q' hq v1 e k hk (h ▸ hk9)
    · rw [h] at hk9
      injection hk9 with hk9
      have := hlt q' v1 e k hk
      omega
  refine ⟨_, nV', hm, fun q' => ?_, fun q1 q2 v1 v2 k hq e1 e2 hk1 hk2 => ?_⟩
  · by_cases hq : q' = q
    · subst hq
      refine Or.inr ⟨v9, putV_same _ _ _, vals9 ++ [v], ?_, fun i hi hi' => ?_, fun k hk => ?_⟩
      · simp only [updL, if_true, List.length_append, List.length_cons, List.length_nil]
        exact hown
      · simp only [updL, if_true] at hi ⊢
        have hvl : vals9.length = (vs q').length := by have := hvals.1; simpa using this
        rcases getElem_snoc (vs q') l i hi with ⟨a1, b1⟩ | ⟨a1, b1⟩
        · have c1 : i < vals9.length := by omega
          rw [b1, List.getElem_append_left c1]
          exact ((hv9 i a1 c1).chg hc hs).mono hF
        · subst a1
          rw [b1]
          have : (vals9 ++ [v])[(vs q').length] = v := by
            rw [List.getElem_append_right (by omega)]
            simp
          rw [this]
          exact hv
      · rcases hblk with h | ⟨j, hj, h⟩
        · exact hF k (hvoF k (h ▸ hk))
        · rw [h] at hk
          injection hk with hk
          subst hk
          obtain ⟨_, _, hh⟩ := own_heap hown h
          exact hFn _ hj (Array.getElem?_eq_some_iff.1 hh).1
    · simp only [updL, if_neg hq]
      rcases h1 q' with ⟨e, e'⟩ | ⟨v1, e, hV⟩
      · exact Or.inl ⟨by rw [putV_other _ _ hq]; exact e, e'⟩
      · refine Or.inr ⟨v1, by rw [putV_other _ _ hq]; exact e, hV.chg hc (fun k hk hSk => ?_) hs hF⟩
        obtain ⟨vals, ho, _⟩ := hV
        obtain ⟨c, fr, hh⟩ := own_heap ho hk
        exact hother q' hq v1 e k hk (hS k c fr hh hSk)
  · by_cases a1 : q1 = q
    · subst a1
      rw [putV_same] at e1
      injection e1 with e1
      subst e1
      rw [putV_other _ _ (fun e => hq e.symm)] at e2
      exact h9 q2 (fun e => hq e.symm) v2 e2 k hk2 hk1
    · rw [putV_other _ _ a1] at e1
      by_cases a2 : q2 = q
      · subst a2
        rw [putV_same] at e2
        injection e2 with e2
        subst e2
        exact h9 q1 a1 v1 e1 k hk1 hk2
      · rw [putV_other _ _ a2] at e2
        exact h2 q1 q2 v1 v2 k hq e1 e2 hk1 hk2

/-- .. that has put a blob. -/
theorem inv_put {w w' : World} {D A : Nat} {F : Nat → Prop} {d : Dv} {m : Mm} (hI : Core w D F (fun k => k = m.B ∨ k = m.V) d m) {kind n cnt : Int} {q tag : H32} {da ks : Value} (hA : DeedAt w A kind q da ks n cnt tag) (key : H32)
    (vals : List (Value × Value)) (hvl : vals.length = d.past.length) (hrp0 : w.ownsRow 0 82 2 m.pv d.past.length (pastC vals)) (hpc : ∀ i (h : i < d.past.length) (h' : i < vals.length), PcAt w F (fun k => k = m.B ∨ k = m.V) vals[i].1 vals[i].2 d.past[i]) (hpF : ∀ k, m.pv.ownBlock = some k → F k)
    (mB mV : H32 → Option Value) (hrB : ∀ q, OptR (DB w F) (mB q) (d.blobs q)) (hBl : m.B < w.heap.size) (hVl : m.V < w.heap.size)
    (h1 : ∀ q, (mV q = none ∧ d.vers q = []) ∨ ∃ v, mV q = some v ∧ VerV w F v (d.vers q)) (h2 : ∀ q q' v v' k, q ≠ q' → mV q = some v → mV q' = some v' → v.ownBlock = some k → v'.ownBlock ≠ some k)
    (vo v9 v xo : Value) (vals9 : List Value) (xb : Bool) (l : Bs) (n' nV' : Nat) (hvo : (mV key).getD (.slice none 0 0) = vo) (hxo : (mB key).getD (.slice none 0 0) = xo) (hxb : (mB key).isSome = xb)
    (hvals : w.ownsRow 0 29 1 vo (d.vers key).length vals9) (hv9 : ∀ i (h : i < (d.vers key).length) (h' : i < vals9.length), DB w F vals9[i] (d.vers key)[i])
    (hmB : MapIs HC w' m.B (putV mB key v) n') (hmV : MapIs HC w' m.V (putV mV key v9) nV') (hown : w'.ownsRow 0 29 1 v9 ((d.vers key).length + 1) (vals9 ++ [v])) (hblk : v9.ownBlock = vo.ownBlock ∨ ∃ k, w.heap.size ≤ k ∧ v9.ownBlock = some k) (hv : DB w' (Grown F w w') v l)
    (N : Nat) (av pv : Value) (c : Ac) (hN : w.heap.size ≤ N) (hmN : MapIs HC w' N (putV (fun _ => none) key (.agg #[xo, .bool xb])) 1)
    (hdev : DevAt w' D { fdOf d m with nb := .map (some N), nl := m.lv, acc := av, past := pv }) (hra : w'.ownsRow 0 95 3 av (d.acc.length + 1) (d.acc.flatMap acC ++ acC c)) (hrp : w'.ownsRow 0 82 2 pv (d.past.length + 1) (pastC vals ++ [.map (some N), m.lv]))
    (hc : Chg (fun k => Smal D A m.av m.pv k ∨ k = m.B ∨ k = m.V ∨ vo.ownBlock = some k) w w') (hav : av.ownBlock = m.av.ownBlock ∨ ∃ k, w.heap.size ≤ k ∧ av.ownBlock = some k) (hpv : pv.ownBlock = m.pv.ownBlock ∨ ∃ k, w.heap.size ≤ k ∧ pv.ownBlock = some k) :
    Inv w' D (Grown F w w') { d with blobs := updO d.blobs key (some l), n := n', vers := updL d.vers key (d.vers key ++ [l]), acc := d.acc ++ [c], past := d.past ++ [⟨updO (fun _ => none) key (some (d.blobs key)), 1, d.log⟩] } := by
  obtain ⟨_, hm0, _⟩ := hI.blobs
  obtain ⟨_, _, hm1, _⟩ := hI.vers
  obtain ⟨es0, clk0, hh0⟩ := map_heap hm0
  obtain ⟨es1, clk1, hh1⟩ := map_heap hm1
  have hcell : ∀ k c t fr, w.heap[k]? = some (.cells c t fr) → (t ≠ 84 ∧ t ≠ 86 ∧ t ≠ 95 ∧ t ≠ 82) → (t ≠ 29 ∨ vo.ownBlock ≠ some k) → ¬ (Smal D A m.av m.pv k ∨ k = m.B ∨ k = m.V ∨ vo.ownBlock = some k) := by
    intro k c t fr hk ht ht2 hS
    rcases hS with h | rfl | rfl | h
    · exact smal_cells hI.dev hA hI.acc.1 hrp0 hk ht h
    · rw [hk] at hh0; cases hh0
    · rw [hk] at hh1; cases hh1
    · rcases ht2 with h3 | h3
      · obtain ⟨_, _, h4⟩ := own_heap hvals h
        rw [hk] at h4
        injection h4 with h4
        injection h4 with _ h4
        exact h3 h4
      · exact h3 h
  have hsb : ∀ k, isBytes w k → ¬ (Smal D A m.av m.pv k ∨ k = m.B ∨ k = m.V ∨ vo.ownBlock = some k) := fun k ⟨cs, fr, hk⟩ => hcell k _ _ _ hk (by decide) (Or.inl (by decide))
  have hsm : ∀ k es clk, w.heap[k]? = some (.map es clk) → (Smal D A m.av m.pv k ∨ k = m.B ∨ k = m.V ∨ vo.ownBlock = some k) → k = m.B ∨ k = m.V := by
    intro k es clk hk hS
    rcases hS with h | h | h | h
    · exact absurd h (smal_map hI.dev hA hI.acc.1 hrp0 hk)
    · exact Or.inl h
    · exact Or.inr h
    · obtain ⟨_, _, h4⟩ := own_heap hvals h
      rw [hk] at h4
      cases h4
  refine ⟨⟨m.B, m.V, m.lv, m.cv, av, pv, .map (some N), m.lv⟩, hdev, grown_old _ hI.fD, grown_old _ hI.fB, grown_old _ hI.fV, Or.inl rfl, Or.inr rfl, hI.bv, ?_, ?_, ?_, ?_, ?_, ?_⟩
  · exact MapB.put hmB hrB hc hsb grown_old hv
  · refine MapV.put h1 h2 hvo hmV hown hvals hv9 hblk hv hc (fun k c fr hk hS => ?_) hsb grown_old (fun k h1 h2 => Or.inr ⟨h1, h2⟩)
    exact Classical.byContradiction fun h => hcell k _ _ _ hk (by decide) (Or.inr h) hS
  · exact (hI.log.chg hc hsb).mono grown_old
  · exact hI.cho.chg hc (fun k c fr hk => hcell k _ _ _ hk (by decide) (Or.inl (by decide))) grown_old
  · refine ⟨?_, fun k hk => ?_⟩
    · show w'.ownsRow 0 95 3 av (d.acc ++ [c]).length ((d.acc ++ [c]).flatMap acC)
      rw [flatMap_snoc, List.length_append]
      exact hra
    · rcases hav with h | ⟨j, hj, h⟩
      · exact Or.inl (hI.acc.2 k (h ▸ hk))
      · rw [h] at hk
        injection hk with hk
        subst hk
        obtain ⟨_, _, hh⟩ := own_heap hra h
        exact Or.inr ⟨hj, (Array.getElem?_eq_some_iff.1 hh).1⟩
  · refine ⟨vals ++ [(.map (some N), m.lv)], by simp [hvl], ?_, fun i hi hi' => ?_, fun k hk => ?_⟩
    · rw [flatMap_snoc]
      show w'.ownsRow 0 82 2 pv (d.past ++ [_]).length _
      rw [List.length_append]
      exact hrp
    · rcases getElem_snoc d.past ⟨updO (fun _ => none) key (some (d.blobs key)), 1, d.log⟩ i hi with ⟨a1, e1⟩ | ⟨a1, e1⟩
      · have a2 : i < vals.length := by omega
        have e2 : (vals ++ [(.map (some N), m.lv)])[i] = vals[i] := List.getElem_append_left a2
        show PcAt _ _ _ (vals ++ [(.map (some N), m.lv)])[i].1 (vals ++ [(.map (some N), m.lv)])[i].2 (d.past ++ [_])[i]
        rw [e1, e2]
        exact (hpc i a1 a2).chg hc hsm hsb grown_old
      · have a2 : i = vals.length := by omega
        have e2 : (vals ++ [(.map (some N), m.lv)])[i] = (.map (some N), m.lv) := by subst a2; simp
        show PcAt _ _ _ (vals ++ [(.map (some N), m.lv)])[i].1 (vals ++ [(.map (some N), m.lv)])[i].2 (d.past ++ [_])[i]
        rw [e1, e2]
        refine ⟨N, rfl, Or.inr ⟨hN, hmN.lt⟩, ?_, ⟨_, hmN, fun q' => ?_⟩, (hI.log.chg hc hsb).mono grown_old⟩
        · rintro (h | h)
          · dsimp only at h; omega
          · dsimp only at h; omega
        · by_cases hq : q' = key
          · subst hq
            simp only [putV, updO, if_true]
            have hR := hrB q'
            refine ⟨xo, ?_, ?_⟩
            · rw [← hxb, hR.none]
            · cases e : d.blobs q' with
              | none =>
                rw [e] at hR
                have : mB q' = none := by cases h : mB q' with | none => rfl | some a => rw [h] at hR; exact hR.elim
                rw [this] at hxo
                subst hxo
                exact DB.nil _ _
              | some b =>
                rw [e] at hR
                obtain ⟨a, ha, hd⟩ := hR.some
                rw [ha] at hxo
                simp only [Option.getD_some] at hxo
                subst hxo
                exact (hd.chg hc hsb).mono grown_old
          · simp only [putV, updO, if_neg hq]
            trivial
    · rcases hpv with h | ⟨j, hj, h⟩
      · exact Or.inl (hpF k (h ▸ hk))
      · rw [h] at hk
        injection hk with hk
        subst hk
        obtain ⟨_, _, hh⟩ := own_heap hrp h
        exact Or.inr ⟨hj, (Array.getElem?_eq_some_iff.1 hh).1⟩
end Go.Proofs.Ytcbglojjbgenlaa
