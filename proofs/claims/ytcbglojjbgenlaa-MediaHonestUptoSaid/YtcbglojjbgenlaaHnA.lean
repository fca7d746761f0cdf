/- The device's own maps: a key struck; honest accesses that are refused or turn no blob. Honest accesses: Delete, Trim, Cut, Load, Store, and all that are refused. Honest accesses: Trim, Cut. An honest Cut. Has the access changed anything, where the key stood already? -/
import Derived.Test.YtcbglojjbgenlaaMedP
import Derived.Test.YtcbglojjbgenlaaMedO
namespace Go.Proofs.Ytcbglojjbgenlaa
open Go.RowKit Go.MapL Go.ChangeMaps Go.MapKept
set_option linter.unusedSimpArgs false
set_option linter.unusedVariables false
attribute [local go_sem] size_gr cell_gr frozen_gr setCell_gr gr_drew gr_drewN lt_k lt_kc le_k le_kc sub_kc nil29 nil28 nil49 mkmap size_setBlock cell_setB
attribute [local go_sem ↓] Go.wp_at_zero Go.wp_at_succ

set_option maxRecDepth 8000 in
open Classical in
/-- set -/
theorem set_del (D B N nB nN : Nat) (f : Fd) (mB mN : H32 → Option Value) (q : H32) (v : Value) (w : World) (hD : DevAt w D f) (hfB : f.bm = .map (some B)) (hfN : f.nb = .map (some N)) (hBN : B ≠ N) (hB : MapIs HC w B mB nB) (hN : MapIs HC w N mN nN)
    (hno : mN q = none) (xA : Option Addr) (xn xc : Nat) (xb : Bool) (hxo : (mB q).getD (.slice none 0 0) = .slice xA xn xc) (hxb : (mB q).isSome = xb) (nB' : Nat) (hnB : (if (mB q).isSome then nB - 1 else nB) = nB') :
    Calls Try.prog 65 #[.pointer (some ⟨D, 0, none⟩), hv q, v, .bool false] w fun e w' => e = .returned (.tuple #[]) ∧
      MapIs HC w' B (delV mB q) nB' ∧ MapIs HC w' N (putV mN q (.agg #[.slice xA xn xc, .bool xb])) (nN + 1) ∧ Chg (fun k => k = B ∨ k = N) w w' := by
  obtain ⟨-, -, hc2, -, -, -, -, -, -, -, hc42, -⟩ := dev_c hD
  rw [hfB] at hc2
  rw [hfN] at hc42
  have hDB : D ≠ B := fun e => by rw [e, map_none hB] at hc2; cases hc2
  have hDN : D ≠ N := fun e => by rw [e, map_none hN] at hc2; cases hc2
  have HD := Lib.hid hD
  have HB := Lib.hid hB
  have HN := Lib.hid hN
  have HNO := Lib.hid hno
  have HXO := Lib.hid hxo
  have HXB := Lib.hid hxb
  have HNB := Lib.hid hnB
  have hDlt : D < w.heap.size := World.block_lt_of_cell? w _ hc2
  have hBlt : B < w.heap.size := hB.lt
  have hNlt : N < w.heap.size := hN.lt
  have hql := q_len q
  have hqu := Try.underlying33
  have hqi := hash_info q
  clear hD hB hN hno hxo hxb hfB hfN hnB
  unfold hv
  go_enter Try.func65, Try.ntmps65
  go_wp2_with fail
  refine with_world (fun W0 hW0 => ?_)
  have HW0 := Lib.hid hW0
  have hB0 : Below w.heap.size w W0 := by rw [hW0]; (repeat (first | exact Below.refl _ _ | refine bg_al ?_ | refine bg_gr ?_ | refine bg_drn ?_ | refine bg_dr ?_ | assumption))
  have HB0 := Lib.hid hB0
  have z0 : W0.heap.size = w.heap.size + 1 := by rw [hW0]; simp
  have k2 : W0.cell? ⟨D, 2, none⟩ = some (.map (some B)) := by rw [hB0.cell (p := ⟨D, 2, none⟩) hDlt]; exact hc2
  have k42 : W0.cell? ⟨D, 42, none⟩ = some (.map (some N)) := by rw [hB0.cell (p := ⟨D, 42, none⟩) hDlt]; exact hc42
  have hr0 : W0.rangeAt w.heap.size 0 (q.1.map bv) := by rw [hW0]; exact range_hash w _ q rfl
  have HR0 := Lib.hid hr0
  clear hW0 hB0 hr0
  go_region_held3 (fun W => (∀ (b o : Nat), b < W0.heap.size → W.cell? ⟨b, o, none⟩ = W0.cell? ⟨b, o, none⟩) ∧ W.rangeAt w.heap.size 0 (q.1.map bv) ∧ (Instr.lookup 80 (.map (some N)) (.agg (q.1.map bv).toArray) true).run Try.prog W = .ok (.tuple #[.agg #[.slice none 0 0, .bool false], .bool false]) W)
    (exact keepO (map_bel HN.out HB0.out) HR0.out (by rw [HNO.out]; rfl) (by (repeat (first | exact Below.refl _ _ | refine bg_al ?_ | refine bg_gr ?_ | refine bg_drn ?_ | refine bg_dr ?_ | assumption)))) (fail)
  all_goals go_wp2_with fail
  all_goals
    refine with_world (fun W1 hW1 => ?_)
    have hB1 : Below w.heap.size w W1 := by have hB0 := HB0.out; rw [hW1]; (repeat (first | exact Below.refl _ _ | refine bg_al ?_ | refine bg_gr ?_ | refine bg_drn ?_ | refine bg_dr ?_ | assumption))
    have HB1 := Lib.hid hB1
    have HBA := Lib.hid (show Below W0.heap.size W0 W1 by rw [hW1]; (repeat (first | exact Below.refl _ _ | refine bg_al ?_ | refine bg_gr ?_ | refine bg_drn ?_ | refine bg_dr ?_ | assumption)))
    have z1 : D < W1.heap.size := by have := hB1.size; omega
    have j2 : W1.cell? ⟨D, 2, none⟩ = some (.map (some B)) := by rw [hB1.cell (p := ⟨D, 2, none⟩) hDlt]; exact hc2
    have j42 : W1.cell? ⟨D, 42, none⟩ = some (.map (some N)) := by rw [hB1.cell (p := ⟨D, 42, none⟩) hDlt]; exact hc42
    clear hW1 hB1
    go_region_held3 (fun W => (∀ (b o : Nat), b < W1.heap.size → W.cell? ⟨b, o, none⟩ = W1.cell? ⟨b, o, none⟩) ∧ W.rangeAt w.heap.size 0 (q.1.map bv) ∧ (Instr.lookup 76 (.map (some B)) (.agg (q.1.map bv).toArray) true).run Try.prog W = .ok (.tuple #[.slice xA xn xc, .bool xb]) W)
      (exact keepB (map_bel HB.out HB1.out) (range_bel HR0.out HBA.out) (by rw [HXO.out, HXB.out]) (by (repeat (first | exact Below.refl _ _ | refine bg_al ?_ | refine bg_gr ?_ | refine bg_drn ?_ | refine bg_dr ?_ | assumption)))) (fail)
    go_wp2_with fail
    refine with_world (fun W2 hW2 => ?_)
    have hB2 : Below w.heap.size w W2 := by have hB1 := HB1.out; rw [hW2]; (repeat (first | exact Below.refl _ _ | refine bg_al ?_ | refine bg_gr ?_ | refine bg_drn ?_ | refine bg_dr ?_ | assumption))
    have HB2 := Lib.hid hB2
    have HBC := Lib.hid (show Below W0.heap.size W0 W2 from bel_trans HBA.out (by rw [hW2]; (repeat (first | exact Below.refl _ _ | refine bg_al ?_ | refine bg_gr ?_ | refine bg_drn ?_ | refine bg_dr ?_ | assumption))))
    have z2 : D < W2.heap.size := by have := hB2.size; omega
    have HG := Lib.hid (show w.heap.size ≠ N by omega)
    have i2 : W2.cell? ⟨D, 2, none⟩ = some (.map (some B)) := by rw [hB2.cell (p := ⟨D, 2, none⟩) hDlt]; exact hc2
    have i42 : W2.cell? ⟨D, 42, none⟩ = some (.map (some N)) := by rw [hB2.cell (p := ⟨D, 42, none⟩) hDlt]; exact hc42
    obtain ⟨ob, hrun, hN2⟩ := (map_bel HN.out (show Below w.heap.size w W2.drew from hB2.drew)).put Try.underlying80 q (.agg #[.slice xA xn xc, .bool xb])
    have hrun' : (Instr.mapUpdate 80 (.map (some N)) (.agg (q.1.map bv).toArray) (.agg #[.slice xA xn xc, .bool xb])).run Try.prog W2.drew = .ok () (setBlock W2.drew N ob) := hrun
    have HN2 := Lib.hid hN2
    clear hW2 hB2 hN2 hrun
    go_region_held3 (fun W => (∀ (b o : Nat), b < W2.heap.size → b ≠ N → W.cell? ⟨b, o, none⟩ = W2.cell? ⟨b, o, none⟩) ∧ W.rangeAt w.heap.size 0 (q.1.map bv))
      (first | exact keepN' (range_bel HR0.out HBC.out) HG.out | exact keepN (range_bel HR0.out HBC.out) (by (repeat (first | exact Below.refl _ _ | refine bg_al ?_ | refine bg_gr ?_ | refine bg_drn ?_ | refine bg_dr ?_ | assumption)))) (fail)
    go_wp2_with fail
    refine with_world (fun W3 hW3 => ?_)
    have hC3 : Chg (fun k => k = N) w W3 := by rw [hW3]; exact chg_setB (S := fun k => k = N) (Below.chg _ HB2.out.drew) rfl ob
    have HC3 := Lib.hid hC3
    have z3 : D < W3.heap.size := by have := hC3.size; omega
    have l2 : W3.cell? ⟨D, 2, none⟩ = some (.map (some B)) := by rw [World.cell?_of_block (hC3.block D hDlt hDN)]; exact hc2
    have HR3 : Hid (W3.rangeAt w.heap.size 0 (q.1.map bv)) := Lib.hid (by
      have := (keepN' (ob := ob) (range_bel HR0.out HBC.out) HG.out).2
      rw [hW3]; exact this)
    have HN3 : Hid (MapIs HC W3 N (putV mN q (.agg #[.slice xA xn xc, .bool xb])) (nN + 1)) := Lib.hid (by
      have := HN2.out
      rw [HNO.out] at this
      rw [hW3]; exact this)
    obtain ⟨ob2, hrun2, hB3⟩ := (map_chg HB.out (show Chg (fun k => k = N) w W3.drew from hC3.drewN 1) hBN).del (ty := 0) Try.underlying76 q
    have hrun2' : (Builtin.delete_ #[76, 33] 0 #[.map (some B), .agg (q.1.map bv).toArray]).run Try.prog W3.drew = .ok (.tuple #[]) (setBlock W3.drew B ob2) := hrun2
    have HB3 := Lib.hid hB3
    have HG2 := Lib.hid (show w.heap.size ≠ B by omega)
    clear hW3 hC3 hB3 hrun2
    go_region_held3 (fun W => (∀ (b o : Nat), b < W3.heap.size → b ≠ B → W.cell? ⟨b, o, none⟩ = W3.cell? ⟨b, o, none⟩) ∧ W.rangeAt w.heap.size 0 (q.1.map bv))
      (first | exact keepN' HR3.out HG2.out | exact keepN HR3.out (by (repeat (first | exact Below.refl _ _ | refine bg_al ?_ | refine bg_gr ?_ | refine bg_drn ?_ | refine bg_dr ?_ | assumption)))) (fail)
    go_wp2_with fail
    go_end0
    refine ⟨rfl, ?_, ?_, ?_⟩
    · have := HB3.out
      rw [HNB.out] at this
      exact this
    · exact (map_bel HN3.out (bg_dr (Below.refl _ _))).of_cell (heap_setB _ _ _ _ (fun e => hBN e.symm))
    · exact chg_setB (S := fun k => k = B ∨ k = N) ((HC3.out.drewN 1).mono (fun k _ h => Or.inr h)) (Or.inl rfl) ob2
end Go.Proofs.Ytcbglojjbgenlaa
namespace Go.Proofs.Ytcbglojjbgenlaa
open Go.RowKit Go.MapL Go.ChangeMaps Go.MapKept
set_option linter.unusedSimpArgs false
set_option linter.unusedVariables false
attribute [local go_sem] size_gr cell_gr frozen_gr setCell_gr gr_drew gr_drewN lt_k lt_kc le_k le_kc sub_kc nil29 nil28 nil49 mkmap size_setBlock cell_setB
attribute [local go_sem ↓] Go.wp_at_zero Go.wp_at_succ

/-- an access that is refused does nothing -/
theorem does_no (D A : Nat) (r : Int) (w : World) (hr : r ≠ 0) (hR : Calls Try.prog 63 #[.pointer (some ⟨D, 0, none⟩), .pointer (some ⟨A, 0, none⟩)] w fun e w' => e = .returned (.int .i64 r) ∧ ∃ k, w' = w.drewN k) :
    Calls Try.prog 62 #[.pointer (some ⟨D, 0, none⟩), .pointer (some ⟨A, 0, none⟩)] w fun e w' => e = .returned (.int .i64 r) ∧ ∃ k, w' = w.drewN k := by
  have HR := Lib.hid hR
  have h0 : (r == 0) = false := by simpa using hr
  clear hR hr
  go_enter Try.func62, Try.ntmps62
  go_wp2_with (go_at_call 63; refine HR.out.mono ?_; rintro en w1 ⟨rfl, n1, rfl⟩)
  go_ret
  exact ⟨rfl, n1, rfl⟩

set_option maxRecDepth 8000 in
theorem does_delete (D A B N nB nN : Nat) (f : Fd) (mB mN : H32 → Option Value) (q : H32) (da ks : Value) (n cnt : Int) (tag : H32) (w : World) (hD : DevAt w D f) (hA : DeedAt w A 3 q da ks n cnt tag)
    (hfB : f.bm = .map (some B)) (hfN : f.nb = .map (some N)) (hBN : B ≠ N) (hB : MapIs HC w B mB nB) (hN : MapIs HC w N mN nN) (hno : mN q = none) (xA : Option Addr) (xn xc : Nat) (hxo : mB q = some (.slice xA xn xc)) :
    Calls Try.prog 62 #[.pointer (some ⟨D, 0, none⟩), .pointer (some ⟨A, 0, none⟩)] w fun e w' => e = .returned (.int .i64 0) ∧ MapIs HC w' B (delV mB q) (nB - 1) ∧ MapIs HC w' N (putV mN q (.agg #[.slice xA xn xc, .bool true])) (nN + 1) ∧ Chg (fun k => k = B ∨ k = N) w w' := by
  have HR := Lib.hid (refuses_delete D A B nB f mB q da ks n cnt tag w hD hA hfB hB _ rfl (by rw [hxo]; rfl))
  have HSET := Lib.hid (fun (W : World) (hb : Below w.heap.size w W) => set_del D B N nB nN f mB mN q (.slice none 0 0) W (dev_bel hD hb) hfB hfN hBN (map_bel hB hb) (map_bel hN hb) hno xA xn xc true (by rw [hxo]; rfl) (by rw [hxo]; rfl) (nB - 1) (by rw [hxo]; rfl))
  obtain ⟨hc0, -⟩ := dev_c hD
  obtain ⟨ha0, -, -, -, -, hak, -⟩ := deed_c hA
  have HK := Lib.hid hak
  have hDlt : D < w.heap.size := World.block_lt_of_cell? w _ hc0
  have hAlt : A < w.heap.size := World.block_lt_of_cell? w _ ha0
  clear hD hA hB hN hno hxo hfB hfN hak
  unfold hv at HSET
  go_enter Try.func62, Try.ntmps62
  go_wp2_with (first
    | (go_at_call 63; refine HR.out.mono ?_; rintro en w1 ⟨rfl, n1, rfl⟩)
    | (refine wpList_load_mid rfl 33 _ rfl _ _ (by rfl) (q.1.map bv) _ (range_drewN HK.out) Try.underlying33 rfl (hash_info q) ?_)
    | (go_at_call 65; refine (HSET.out _ (by (repeat (first | exact Below.refl _ _ | refine bg_al ?_ | refine bg_gr ?_ | refine bg_drn ?_ | refine bg_dr ?_ | assumption)))).mono ?_; rintro en w2 ⟨rfl, hb2, hn2, hch2⟩; have HB2 := Lib.hid hb2; have HN2 := Lib.hid hn2; have HCH := Lib.hid hch2; clear hb2 hn2 hch2))
  go_ret
  exact ⟨rfl, HB2.out, HN2.out, HCH.out.os, HCH.out.tape, HCH.out.output, HCH.out.size, HCH.out.block⟩
end Go.Proofs.Ytcbglojjbgenlaa
namespace Go.Proofs.Ytcbglojjbgenlaa
open Go.RowKit Go.MapL Go.ChangeMaps Go.MapKept
set_option linter.unusedSimpArgs false
set_option linter.unusedVariables false
attribute [local go_sem] size_gr cell_gr frozen_gr setCell_gr gr_drew gr_drewN lt_k lt_kc le_k le_kc sub_kc nil29 nil28 nil49 mkmap size_setBlock cell_setB
attribute [local go_sem ↓] Go.wp_at_zero Go.wp_at_succ

/-- a log that was trimmed -/
def LogTrim (lA : Option Addr) (ln lc k : Nat) : Value := .slice (cutA lA lc k) (ln - k) (lc - k)
theorem logTrim_a (lA : Option Addr) (ln lc k : Nat) (h : lc = k) : LogTrim lA ln lc k = .slice lA (ln - k) 0 := by
  unfold LogTrim cutA
  rw [if_pos h]
  congr 1
  omega
theorem logTrim_b (lA : Option Addr) (ln lc k : Nat) (h : ¬ lc = k) : LogTrim lA ln lc k = .slice (Option.map (fun x => x.add k) lA) (ln - k) (lc - k) := by
  unfold LogTrim cutA
  rw [if_neg h]
/-- a log that was cut -/
def LogCut (lA : Option Addr) (k : Nat) : Value := .slice lA k k
set_option maxRecDepth 8000 in
theorem does_trim (D A B nB : Nat) (f : Fd) (mB : H32 → Option Value) (q : H32) (da ks : Value) (k : Nat) (cnt : Int) (tag : H32) (w : World) (hD : DevAt w D f) (hA : DeedAt w A 7 q da ks k cnt tag) (hfB : f.bm = .map (some B)) (hB : MapIs HC w B mB nB)
    (lA : Option Addr) (ln lc : Nat) (hlog : f.log = .slice lA ln lc) (hk : k ≤ ln) (hlc : ln ≤ lc) (hbig : lc ≤ 9223372036854775807) :
    Calls Try.prog 62 #[.pointer (some ⟨D, 0, none⟩), .pointer (some ⟨A, 0, none⟩)] w fun e w' => e = .returned (.int .i64 0) ∧ DevAt w' D { f with log := LogTrim lA ln lc k } ∧ Chg (fun k => k = D) w w' := by
  have HR := Lib.hid (refuses_trim D A B nB f mB q da ks k cnt tag w hD hA hfB hB _ rfl _ rfl lA ln lc hlog (by omega) (by omega))
  have HDq := Lib.hid hD
  obtain ⟨hc0, hc1, hc2, hc3, hc4, -⟩ := dev_c hD
  obtain ⟨ha0, ha33, ha34, ha35, ha36, hak, har⟩ := deed_c hA
  have hf3 := dev_fr hD 3
  have hDA := dev_ne_deed hD hA
  rw [hlog] at hc3
  have hDlt : D < w.heap.size := World.block_lt_of_cell? w _ hc3
  have hAlt : A < w.heap.size := World.block_lt_of_cell? w _ ha0
  have hk0 : (0 : Int) ≤ (k : Int) := by omega
  have hk1 : (k : Int) ≤ (ln : Int) := by omega
  clear hD hA hfB hB hak har hlog hk hlc hbig
  go_enter Try.func62, Try.ntmps62
  go_wp2_with (go_at_call 63; refine HR.out.mono ?_; rintro en w1 ⟨rfl, n1, rfl⟩)
  refine with_world (fun W0 hW0 => ?_)
  have hB0 : Below w.heap.size w W0 := by rw [hW0]; (repeat (first | exact Below.refl _ _ | refine bg_al ?_ | refine bg_gr ?_ | refine bg_drn ?_ | refine bg_dr ?_ | assumption))
  have HB0 := Lib.hid hB0
  have z0 : D < W0.heap.size := by have := hB0.size; omega
  have y0 : A < W0.heap.size := by have := hB0.size; omega
  have k3 : W0.cell? ⟨D, 3, none⟩ = some (.slice lA ln lc) := by rw [hB0.cell (p := ⟨D, 3, none⟩) hDlt]; exact hc3
  have kf3 : W0.frozen? ⟨D, 3, none⟩ = false := by rw [hB0.frozen (p := ⟨D, 3, none⟩) hDlt]; exact hf3
  have k35 : W0.cell? ⟨A, 35, none⟩ = some (.int .i64 (k : Int)) := by rw [hB0.cell (p := ⟨A, 35, none⟩) hAlt]; exact ha35
  clear hB0 hW0
  go_region_law (fail)
  all_goals go_wp2_with fail
  all_goals go_ret
  all_goals
    refine ⟨rfl, ?_, chg_set (S := fun k => k = D) (Below.chg _ (show Below w.heap.size w W0.drew from HB0.out.drew)) rfl _⟩
    first
      | (rw [logTrim_a lA ln k k rfl]; exact dev_set3 (dev_bel HDq.out HB0.out) _)
      | (rw [logTrim_b lA ln lc k (by assumption)]; exact dev_set3 (dev_bel HDq.out HB0.out) _)

end Go.Proofs.Ytcbglojjbgenlaa
namespace Go.Proofs.Ytcbglojjbgenlaa
open Go.RowKit Go.MapL Go.ChangeMaps Go.MapKept
set_option linter.unusedSimpArgs false
set_option linter.unusedVariables false
attribute [local go_sem] size_gr cell_gr frozen_gr setCell_gr gr_drew gr_drewN lt_k lt_kc le_k le_kc sub_kc nil29 nil28 nil49 mkmap size_setBlock cell_setB
attribute [local go_sem ↓] Go.wp_at_zero Go.wp_at_succ

set_option maxHeartbeats 1000000 in
set_option maxRecDepth 8000 in
theorem does_cut (D A B nB : Nat) (f : Fd) (mB : H32 → Option Value) (q : H32) (da ks : Value) (k : Nat) (cnt : Int) (tag : H32) (w : World) (hD : DevAt w D f) (hA : DeedAt w A 8 q da ks k cnt tag) (hfB : f.bm = .map (some B)) (hB : MapIs HC w B mB nB)
    (lA : Option Addr) (ln lc : Nat) (hlog : f.log = .slice lA ln lc) (hk : k ≤ ln) (hlc : ln ≤ lc) (hbig : lc ≤ 9223372036854775807) :
    Calls Try.prog 62 #[.pointer (some ⟨D, 0, none⟩), .pointer (some ⟨A, 0, none⟩)] w fun e w' => e = .returned (.int .i64 0) ∧ DevAt w' D { f with log := LogCut lA k } ∧ Chg (fun k => k = D) w w' := by
  have HR := Lib.hid (refuses_cut D A B nB f mB q da ks k cnt tag w hD hA hfB hB _ rfl _ rfl lA ln lc hlog (by omega) (by omega))
  have HDq := Lib.hid hD
  obtain ⟨hc0, hc1, hc2, hc3, hc4, -⟩ := dev_c hD
  obtain ⟨ha0, ha33, ha34, ha35, ha36, hak, har⟩ := deed_c hA
  have hf3 := dev_fr hD 3
  have hDA := dev_ne_deed hD hA
  rw [hlog] at hc3
  have hDlt : D < w.heap.size := World.block_lt_of_cell? w _ hc3
  have hAlt : A < w.heap.size := World.block_lt_of_cell? w _ ha0
  have hk0 : (0 : Int) ≤ (k : Int) := by omega
  have hk1 : (k : Int) ≤ (ln : Int) := by omega
  have hk2 : (k : Int) ≤ (lc : Int) := by omega
  have hk3 : (k : Int) ≤ (k : Int) := Int.le_refl _
  clear hD hA hfB hB hak har hlog hk hlc hbig
  go_enter Try.func62, Try.ntmps62
  go_wp2_with (go_at_call 63; refine HR.out.mono ?_; rintro en w1 ⟨rfl, n1, rfl⟩)
  refine with_world (fun W0 hW0 => ?_)
  have hB0 : Below w.heap.size w W0 := by rw [hW0]; (repeat (first | exact Below.refl _ _ | refine bg_al ?_ | refine bg_gr ?_ | refine bg_drn ?_ | refine bg_dr ?_ | assumption))
  have HB0 := Lib.hid hB0
  have z0 : D < W0.heap.size := by have := hB0.size; omega
  have y0 : A < W0.heap.size := by have := hB0.size; omega
  have k3 : W0.cell? ⟨D, 3, none⟩ = some (.slice lA ln lc) := by rw [hB0.cell (p := ⟨D, 3, none⟩) hDlt]; exact hc3
  have kf3 : W0.frozen? ⟨D, 3, none⟩ = false := by rw [hB0.frozen (p := ⟨D, 3, none⟩) hDlt]; exact hf3
  have k35 : W0.cell? ⟨A, 35, none⟩ = some (.int .i64 (k : Int)) := by rw [hB0.cell (p := ⟨A, 35, none⟩) hAlt]; exact ha35
  clear hB0 hW0
  go_region_law (fail)
  all_goals go_wp2_with fail
  all_goals go_ret
  all_goals exact ⟨rfl, dev_set3 (dev_bel HDq.out HB0.out) (.slice lA k k), (chg_set (S := fun k => k = D) (Below.chg _ HB0.out) rfl (.slice lA k k)).drewN 1⟩

theorem dev_reg {w : World} {D : Nat} {f : Fd} (h : DevAt w D f) : w.rangeAt D 4 (regC f.cnt f.tag) := by
  refine range_blk h 4 _ (fun j v hj => ?_)
  have e : devC f = [.int .i64 f.slots, .int .i64 f.room, f.bm, f.log] ++ (regC f.cnt f.tag ++ [.bool f.down, f.cho, f.acc, f.vers, f.past, f.nb, f.nl]) := by simp [devC, regC]
  have hj' := (List.getElem?_eq_some_iff.1 hj).1
  rw [List.getElem?_toArray, e, List.getElem?_append_right (by simp), List.getElem?_append_left (by simpa using hj'), ← hj]
  congr 1
  simp
theorem st_regA {w : World} {A : Nat} {kind : Int} {q tag : H32} {da ks : Value} {n cnt : Int} (h : DeedAt w A kind q da ks n cnt tag) (c : Int) (t : H32) :
    (storeCells ⟨A, 36, none⟩ (regC c t) 0).run Try.prog w = .ok () (w.setRow A (deedC kind q da ks n c t).toArray) := by
  rw [run_storeCells_at Try.prog A 36 _ (regC c t) 0 _ w h (by rw [List.size_toArray, deed_len, reg_len]; omega) (fun v hv => (Array.all_eq_true_iff_forall_mem.1 (reg_one c t)) v (by simpa using hv))]
  congr 2
  have e : ∀ c t, deedC kind q da ks n c t = ([.int .i64 kind] ++ q.1.map bv ++ [da, ks, .int .i64 n]) ++ regC c t := fun c t => by simp [deedC, regC]
  rw [List.toList_toArray, e cnt tag, e c t, List.take_append_of_le_length (by simp [q.2]), List.take_of_length_le (by simp [q.2]), List.drop_eq_nil_of_le (by simp [regC, q.2, t.2, tag.2])]
  simp
theorem st_regD {w : World} {D : Nat} {f : Fd} (h : DevAt w D f) (c : Int) (t : H32) :
    (storeCells ⟨D, 4, none⟩ (regC c t) 0).run Try.prog w = .ok () (w.setRow D (devC { f with cnt := c, tag := t }).toArray) := by
  rw [run_storeCells_at Try.prog D 4 _ (regC c t) 0 _ w h (by rw [List.size_toArray, devC_len, reg_len]; omega) (fun v hv => (Array.all_eq_true_iff_forall_mem.1 (reg_one c t)) v (by simpa using hv))]
  congr 2
  have e : ∀ c t, devC { f with cnt := c, tag := t } = ([.int .i64 f.slots, .int .i64 f.room, f.bm, f.log] ++ regC c t) ++ [.bool f.down, f.cho, f.acc, f.vers, f.past, f.nb, f.nl] := fun c t => by simp [devC, regC]
  rw [List.toList_toArray, show devC f = devC { f with cnt := f.cnt, tag := f.tag } from rfl, e f.cnt f.tag, e c t, List.take_append_of_le_length (by simp), List.take_append_of_le_length (by simp), List.drop_append_of_le_length (by simp [reg_len]), List.drop_eq_nil_of_le (by simp [reg_len])]
  simp

set_option maxRecDepth 8000 in
theorem does_load (D A B nB : Nat) (f : Fd) (mB : H32 → Option Value) (q : H32) (da ks : Value) (n cnt : Int) (tag : H32) (w : World) (hD : DevAt w D f) (hA : DeedAt w A 9 q da ks n cnt tag) (hfB : f.bm = .map (some B)) (hB : MapIs HC w B mB nB) :
    Calls Try.prog 62 #[.pointer (some ⟨D, 0, none⟩), .pointer (some ⟨A, 0, none⟩)] w fun e w' => e = .returned (.int .i64 0) ∧ DeedAt w' A 9 q da ks n f.cnt f.tag ∧ Chg (fun k => k = A) w w' := by
  have HR := Lib.hid (refuses_load D A B nB f mB q da ks n cnt tag w hD hA hfB hB _ rfl _ rfl)
  have HK := Lib.hid (dev_reg hD)
  have hst : ∀ k, (storeCells ⟨A, 36, none⟩ (regC f.cnt f.tag) 0).run Try.prog (w.drewN k) = .ok () ((w.drewN k).setRow A (deedC 9 q da ks n f.cnt f.tag).toArray) := fun k => st_regA (show DeedAt (w.drewN k) A 9 q da ks n cnt tag from hA) f.cnt f.tag
  have hrl := reg_len f.cnt f.tag
  have HAq := Lib.hid hA
  obtain ⟨hc0, -⟩ := dev_c hD
  obtain ⟨ha0, -⟩ := deed_c hA
  have hDlt : D < w.heap.size := World.block_lt_of_cell? w _ hc0
  have hAlt : A < w.heap.size := World.block_lt_of_cell? w _ ha0
  clear hD hA hfB hB
  go_enter Try.func62, Try.ntmps62
  go_wp2_with (first
    | (go_at_call 63; refine HR.out.mono ?_; rintro en w1 ⟨rfl, n1, rfl⟩)
    | (refine wpList_load_mid rfl 39 _ rfl _ _ (by rfl) (regC f.cnt f.tag) _ (range_drewN HK.out) Try.underlying39 rfl (by rw [reg_len]; exact regInfo) ?_))
  go_ret
  exact ⟨rfl, setRow_heap _ _ _ _ _ _ (show (w.drewN n1).heap[A]? = _ from HAq.out), setRow_chg (S := fun k => k = A) (Below.chg _ (by (repeat (first | exact Below.refl _ _ | refine bg_al ?_ | refine bg_gr ?_ | refine bg_drn ?_ | refine bg_dr ?_ | assumption)))) (Or.inl rfl) _⟩

set_option maxRecDepth 8000 in
theorem does_store (D A B nB : Nat) (f : Fd) (mB : H32 → Option Value) (q : H32) (da ks : Value) (n cnt : Int) (tag : H32) (w : World) (hD : DevAt w D f) (hA : DeedAt w A 10 q da ks n cnt tag) (hfB : f.bm = .map (some B)) (hB : MapIs HC w B mB nB) (hnew : f.cnt < cnt) :
    Calls Try.prog 62 #[.pointer (some ⟨D, 0, none⟩), .pointer (some ⟨A, 0, none⟩)] w fun e w' => e = .returned (.int .i64 0) ∧ DevAt w' D { f with cnt := cnt, tag := tag } ∧ Chg (fun k => k = D) w w' := by
  have HR := Lib.hid (refuses_store D A B nB f mB q da ks n cnt tag w hD hA hfB hB _ rfl _ rfl hnew)
  have HK := Lib.hid (deed_c hA).2.2.2.2.2.2
  have hst : ∀ k, (storeCells ⟨D, 4, none⟩ (regC cnt tag) 0).run Try.prog (w.drewN k) = .ok () ((w.drewN k).setRow D (devC { f with cnt := cnt, tag := tag }).toArray) := fun k => st_regD (show DevAt (w.drewN k) D f from hD) cnt tag
  have hrl := reg_len cnt tag
  have HDq := Lib.hid hD
  obtain ⟨hc0, -⟩ := dev_c hD
  obtain ⟨ha0, -⟩ := deed_c hA
  have hDlt : D < w.heap.size := World.block_lt_of_cell? w _ hc0
  have hAlt : A < w.heap.size := World.block_lt_of_cell? w _ ha0
  clear hD hA hfB hB hnew
  go_enter Try.func62, Try.ntmps62
  go_wp2_with (first
    | (go_at_call 63; refine HR.out.mono ?_; rintro en w1 ⟨rfl, n1, rfl⟩)
    | (refine wpList_load_mid rfl 39 _ rfl _ _ (by rfl) (regC cnt tag) _ (range_drewN HK.out) Try.underlying39 rfl (by rw [reg_len]; exact regInfo) ?_))
  go_ret
  exact ⟨rfl, setRow_heap _ _ _ _ _ _ (show (w.drewN n1).heap[D]? = _ from HDq.out), setRow_chg (S := fun k => k = D) (Below.chg _ (by (repeat (first | exact Below.refl _ _ | refine bg_al ?_ | refine bg_gr ?_ | refine bg_drn ?_ | refine bg_dr ?_ | assumption)))) (Or.inl rfl) _⟩
end Go.Proofs.Ytcbglojjbgenlaa
namespace Go.Proofs.Ytcbglojjbgenlaa
open Go.RowKit Go.MapL Go.ChangeMaps Go.MapKept
set_option linter.unusedSimpArgs false
set_option linter.unusedVariables false
attribute [local go_sem] size_gr cell_gr frozen_gr setCell_gr gr_drew gr_drewN lt_k lt_kc le_k le_kc sub_kc nil29 nil28 nil49 mkmap size_setBlock cell_setB st_hash2
attribute [local go_sem ↓] Go.wp_at_zero Go.wp_at_succ

set_option maxHeartbeats 1000000 in
set_option maxRecDepth 8000 in
theorem changed_again (D B N nB : Nat) (f : Fd) (mB mN : H32 → Option Value) (q : H32) (w : World) (hD : DevAt w D f) (hfB : f.bm = .map (some B)) (hfN : f.nb = .map (some N)) (hB : MapIs HC w B mB nB) (hN : MapIs HC w N mN 1) (hBN : B ≠ N)
    (sA : Option Addr) (sn sc : Nat) (sb : Bool) (hq : mN q = some (.agg #[.slice sA sn sc, .bool sb])) (ho : ∀ q', q' ≠ q → mN q' = none) (xA : Option Addr) (xn xc : Nat) (hxo : (mB q).getD (.slice none 0 0) = .slice xA xn xc) (hxb : (mB q).isSome = sb)
    (l1 l2 : Bs) (h1 : SB w (.slice xA xn xc) l1) (h2 : SB w (.slice sA sn sc) l2) (la : Bs) (hla : SB w f.nl la) (hlb : SB w f.log la) (hva : ∀ k, vBlock f.nl = some k → k ≠ N) (hvb : ∀ k, vBlock f.log = some k → k ≠ N) :
    Calls Try.prog 44 #[.pointer (some ⟨D, 0, none⟩)] w fun e w' => e = .returned (.bool (!(l1 == l2))) ∧ Chg (fun k => k = N) w w' ∧ ((l1 == l2) = false → Below w.heap.size w w') := by
  have HDq := Lib.hid hD
  obtain ⟨hc0, hc1, hc2, hc3, hc4, -, -, -, hc40, hc41, hc42, hc43⟩ := dev_c hD
  have hDlt : D < w.heap.size := World.block_lt_of_cell? w _ hc3
  have hDN := (map_ne_cells hN hD).symm
  rw [hfN] at hc42
  rw [hfB] at hc2
  have HB := Lib.hid hB
  have HN := Lib.hid hN
  have HQ := Lib.hid hq
  have HO := Lib.hid ho
  have HXO := Lib.hid hxo
  have HXB := Lib.hid hxb
  have hql := q_len q
  have hqu := Try.underlying33
  have hqi := hash_info q
  have hsb : (sb == sb) = true := by cases sb <;> rfl
  have HS1 := Lib.hid h1
  have HS2 := Lib.hid h2
  have HLA := Lib.hid hla
  have HLB := Lib.hid hlb
  have HVA := Lib.hid hva
  have HVB := Lib.hid hvb
  have hNlt : N < w.heap.size := hN.lt
  clear hD hB hN hfB hfN hq ho hxo hxb h1 h2 hla hlb hva hvb
  go_enter Try.func44, Try.ntmps44
  go_wp2_with (first
    | (at_range; refine wl_range rfl _ _ rfl _ Try.underlying80 (by rfl) (HN.out) ?_; intro ob hrg; have HRG := Lib.hid hrg; clear hrg))
  refine wp_loop_rounds 2 ?_
  rw [rounds_succ]
  have HNX : ∀ (ops : Array Oper) (rest : List Oper) (o : Oper) (a : Act) (Q : Exit → Act → World → Prop) (hg : o.guard = none) (it : Operand) (hop : o.op = Op.next it false) (hit : a.eval it = .pointer (some ⟨w.heap.size, 0, none⟩))
      (hMore : ∀ w1 ob2 cnt', (w1 = w.alloc ob ∨ w1 = (w.alloc ob).drew) → Hid (Ranging HC (setBlock w1 w.heap.size ob2) N w.heap.size mN 1 (fun _ => False) cnt') →
        (Instr.entry (.pointer (some ⟨w.heap.size, 0, none⟩))).run Try.prog (setBlock w1 w.heap.size ob2) = .ok (.tuple #[.agg (q.1.map bv).toArray, .agg #[.slice sA sn sc, .bool sb]]) (setBlock w1 w.heap.size ob2) →
        wpList Try.prog ops Q rest (a.put o.dst (.tuple #[.bool true, .agg (q.1.map bv).toArray, .agg #[.slice sA sn sc, .bool sb]])) (setBlock w1 w.heap.size ob2)), wpList Try.prog ops Q (o :: rest) a (w.alloc ob) := by
    intro ops rest o a Q hg it hop hit hMore
    refine wl_next hg it hop hit HRG.out ?_ ?_
    · intro _ hl
      exact absurd (by rw [HQ.out]; rfl) (hl q)
    · intro q' v w1 ob2 cnt' hl hv' hw hr _ hen
      have hqq : q' = q := Classical.byContradiction fun h => by
        have := HO.out q' h
        rw [this] at hv'
        cases hv'
      subst hqq
      rw [HQ.out] at hv'
      injection hv' with hv'
      subst hv'
      refine hMore w1 ob2 cnt' hw (Lib.hid ?_) hen
      obtain ⟨es, clk, since, seen, c0, z1, z2, z3, z4, z5, z6, z7, z8, z9, z10, z11⟩ := hr
      refine ⟨es, clk, since, seen, c0, z1, z2, z3, z4, z5, z6, z7, z8, z9, z10, fun q2 => ?_⟩
      rw [← z11 q2]
      constructor
      · exact fun h => h.elim
      · rintro ⟨h1, h2⟩
        have := HO.out q2 h2
        simp only [this] at h1
        cases h1
  have HNX' := Lib.hid HNX
  clear HNX
  go_wp2_with (at_next; refine HNX'.out _ _ _ _ _ rfl _ rfl rfl ?_; intro w1 ob2 cnt2 hw1 HR2 hen; have hz1 : w1.heap.size = w.heap.size + 1 := (by rcases hw1 with rfl | rfl <;> simp); have HC1 : Hid (Chg (fun k => k = w.heap.size) w (setBlock w1 w.heap.size ob2)) := Lib.hid (chg_setB (S := fun k => k = w.heap.size) (by rcases hw1 with rfl | rfl <;> exact Below.chg _ (by (repeat (first | exact Below.refl _ _ | refine bg_al ?_ | refine bg_gr ?_ | refine bg_drn ?_ | refine bg_dr ?_ | assumption)))) rfl ob2); clear hw1)
  refine with_world (fun W0 hW0 => ?_)
  have hB0 : Below w.heap.size w W0 := by rw [hW0]; exact bg_al (bg_al (chg_below HC1.out (fun k hk h => by omega)))
  have HB0 := Lib.hid hB0
  have hR0 : Ranging HC W0 N w.heap.size mN 1 (fun _ => False) cnt2 := by
    rw [hW0]
    have h1 := HR2.out.is.lt
    have h2 := HR2.out.lt
    exact HR2.out.of_cells (by rw [Below.heap_alloc _ _ _ (by rw [World.size_alloc]; omega), Below.heap_alloc _ _ _ h1]) (by rw [Below.heap_alloc _ _ _ (by rw [World.size_alloc]; omega), Below.heap_alloc _ _ _ h2])
  have HR0 := Lib.hid hR0
  have hk0 : W0.heap[w.heap.size + 1]? = some (.cells (q.1.map bv).toArray 33 (0, 0)) := by
    rw [hW0, Below.heap_alloc _ _ _ (by simp [size_setBlock, hz1])]
    have : (setBlock w1 w.heap.size ob2).heap.size = w.heap.size + 1 := by rw [size_setBlock, hz1]
    rw [← this]
    exact heap_alloc_last _ _
  have hq0 : W0.rangeAt (w.heap.size + 1) 0 (q.1.map bv) := range_blk hk0 0 _ (fun j v h => by simpa using h)
  have HK0 := Lib.hid hq0
  have ho0 : W0.heap[w.heap.size + 2]? = some (.cells #[.slice sA sn sc, .bool sb] 112 (0, 0)) := by
    have : ((setBlock w1 w.heap.size ob2).alloc (.cells (q.1.map bv).toArray 33)).heap.size = w.heap.size + 2 := by rw [World.size_alloc, size_setBlock, hz1]
    rw [hW0, ← this]
    exact heap_alloc_last _ _
  have z0 : D < W0.heap.size := by have := hB0.size; omega
  have z2 : w.heap.size + 2 < W0.heap.size := (Array.getElem?_eq_some_iff.1 ho0).1
  have k3 : W0.cell? ⟨D, 3, none⟩ = some f.log := by rw [hB0.cell (p := ⟨D, 3, none⟩) hDlt]; exact hc3
  have k43 : W0.cell? ⟨D, 43, none⟩ = some f.nl := by rw [hB0.cell (p := ⟨D, 43, none⟩) hDlt]; exact hc43
  have k2 : W0.cell? ⟨D, 2, none⟩ = some (.map (some B)) := by rw [hB0.cell (p := ⟨D, 2, none⟩) hDlt]; exact hc2
  have k42 : W0.cell? ⟨D, 42, none⟩ = some (.map (some N)) := by rw [hB0.cell (p := ⟨D, 42, none⟩) hDlt]; exact hc42
  have k00 : W0.cell? ⟨w.heap.size + 2, 0, none⟩ = some (.slice sA sn sc) := by rw [cell_of_row _ _ _ _ _ _ ho0]; rfl
  have k01 : W0.cell? ⟨w.heap.size + 2, 1, none⟩ = some (.bool sb) := by rw [cell_of_row _ _ _ _ _ _ ho0]; rfl
  clear hW0 hB0 hR0 hk0 hq0 ho0 hen
  go_region_held3 (fun W => (∀ (b o : Nat), b < W0.heap.size → W.cell? ⟨b, o, none⟩ = W0.cell? ⟨b, o, none⟩) ∧ W.rangeAt (w.heap.size + 1) 0 (q.1.map bv) ∧ (Instr.lookup 76 (.map (some B)) (.agg (q.1.map bv).toArray) true).run Try.prog W = .ok (.tuple #[.slice xA xn xc, .bool sb]) W)
    (exact keepB (map_bel HB.out HB0.out) HK0.out (by rw [HXO.out, HXB.out]) (by (repeat (first | exact Below.refl _ _ | refine bg_al ?_ | refine bg_gr ?_ | refine bg_drn ?_ | refine bg_dr ?_ | assumption)))) (fail)
  go_wp2_with (go_at_call 57; refine (beq_any _ _ l1 l2 _ (HS1.out.below (by have hB0 := HB0.out; (repeat (first | exact Below.refl _ _ | refine bg_al ?_ | refine bg_gr ?_ | refine bg_drn ?_ | refine bg_dr ?_ | assumption)))) (HS2.out.below (by have hB0 := HB0.out; (repeat (first | exact Below.refl _ _ | refine bg_al ?_ | refine bg_gr ?_ | refine bg_drn ?_ | refine bg_dr ?_ | assumption))))).mono ?_; rintro en w2 ⟨rfl, n2, rfl⟩)
  · rename_i hlt
    refine with_world (fun W1 hW1 => ?_)
    have hR1 : Ranging HC W1 N w.heap.size mN 1 (fun _ => False) cnt2 := by rw [hW1]; exact HR0.out
    have hB1 : Below w.heap.size w W1 := by have hB0 := HB0.out; rw [hW1]; (repeat (first | exact Below.refl _ _ | refine bg_al ?_ | refine bg_gr ?_ | refine bg_drn ?_ | refine bg_dr ?_ | assumption))
    have hq1 : W1.rangeAt (w.heap.size + 1) 0 (q.1.map bv) := by rw [hW1]; exact HK0.out
    have HB1 := Lib.hid hB1
    have HK1 := Lib.hid hq1
    have z1 : D < W1.heap.size := by rw [hW1]; exact z0
    have hz2 : w.heap.size + 2 < W1.heap.size := by rw [hW1]; exact z2
    have j42 : W1.cell? ⟨D, 42, none⟩ = some (.map (some N)) := by rw [hW1]; exact k42
    have j3 : W1.cell? ⟨D, 3, none⟩ = some f.log := by rw [hW1]; exact k3
    have j43 : W1.cell? ⟨D, 43, none⟩ = some f.nl := by rw [hW1]; exact k43
    obtain ⟨ob3, cnt3, hrun, hR2, -⟩ := (show Ranging HC W1.drew N w.heap.size mN 1 (fun _ => False) cnt2 from hR1).del (ty := 0) Try.underlying80 q
    have hrun' : (Builtin.delete_ #[80, 33] 0 #[.map (some N), .agg (q.1.map bv).toArray]).run Try.prog W1.drew = .ok (.tuple #[]) (setBlock W1.drew N ob3) := hrun
    rw [show (if (mN q).isSome then 1 - 1 else 1) = 0 by rw [HQ.out]; rfl] at hR2
    have HR2 := Lib.hid hR2
    have HG := Lib.hid (show w.heap.size + 1 ≠ N by omega)
    clear hW1 hB1 hR1 hR2 hq1 hrun
    go_region_held3 (fun W => (∀ (b o : Nat), b < W1.heap.size → b ≠ N → W.cell? ⟨b, o, none⟩ = W1.cell? ⟨b, o, none⟩) ∧ W.rangeAt (w.heap.size + 1) 0 (q.1.map bv))
      (first | exact keepN' HK1.out HG.out | exact keepN HK1.out (by (repeat (first | exact Below.refl _ _ | refine bg_al ?_ | refine bg_gr ?_ | refine bg_drn ?_ | refine bg_dr ?_ | assumption)))) (fail)
    go_wp2_with fail
    rw [rounds_succ]
    have HNY : ∀ (ops : Array Oper) (rest : List Oper) (o : Oper) (a : Act) (Q : Exit → Act → World → Prop) (hg : o.guard = none) (it : Operand) (hop : o.op = Op.next it false) (hit : a.eval it = .pointer (some ⟨w.heap.size, 0, none⟩))
        (hDone : wpList Try.prog ops Q rest (a.put o.dst (.tuple #[.bool false])) (setBlock W1.drew N ob3)), wpList Try.prog ops Q (o :: rest) a (setBlock W1.drew N ob3) := by
      intro ops rest o a Q hg it hop hit hDone
      exact wl_next hg it hop hit HR2.out (fun _ _ => hDone) (fun q' v w1 ob2 cnt' hl => hl.1.elim)
    have HNY' := Lib.hid HNY
    clear HNY
    go_wp2_with (at_next; refine HNY'.out _ _ _ _ _ rfl _ rfl rfl ?_)
    refine with_world (fun W2 hW2 => ?_)
    have hC2 : Chg (fun k => k = N) w W2 := by rw [hW2]; exact chg_setB (S := fun k => k = N) ((Below.chg _ HB1.out).drewN 1) rfl ob3
    have HC2 := Lib.hid hC2
    have y2 : D < W2.heap.size := by have := hC2.size; omega
    have l42 : W2.cell? ⟨D, 42, none⟩ = some (.map (some N)) := by rw [World.cell?_of_block (hC2.block D hDlt hDN)]; exact hc42
    have l3 : W2.cell? ⟨D, 3, none⟩ = some f.log := by rw [World.cell?_of_block (hC2.block D hDlt hDN)]; exact hc3
    have l43 : W2.cell? ⟨D, 43, none⟩ = some f.nl := by rw [World.cell?_of_block (hC2.block D hDlt hDN)]; exact hc43
    have hIs : MapIs HC W2 N (delV mN q) 0 := by rw [hW2]; exact HR2.out.is
    have HIS := Lib.hid hIs
    have hsbl : ∀ {v : Value} {l : Bs}, SB w v l → (∀ k, vBlock v = some k → k ≠ N) → SB W2 v l := fun {v l} h hv => by
      obtain ⟨A', c', e, hr', h1', h2', h3'⟩ := h
      refine ⟨A', c', e, hr'.chg hC2 (fun a ha e2 => hv a.block (by rw [e, ha]; rfl) e2), h1', h2', h3'⟩
    have hnl2 : SB W2 f.nl la := hsbl HLA.out HVA.out
    have hlb2 : SB W2 f.log la := hsbl HLB.out HVB.out
    have HNL2 := Lib.hid hnl2
    have HLB2 := Lib.hid hlb2
    clear hW2 hC2 hIs hsbl hnl2 hlb2
    go_region_held3 (fun W => (∀ (b o : Nat), b < W2.heap.size → W.cell? ⟨b, o, none⟩ = W2.cell? ⟨b, o, none⟩) ∧ (Builtin.len_ #[80] 3 #[.map (some N)]).run Try.prog W = .ok (.int .i64 0) W)
      (exact ⟨cellB (by (repeat (first | exact Below.refl _ _ | refine bg_al ?_ | refine bg_gr ?_ | refine bg_drn ?_ | refine bg_dr ?_ | assumption))), lenO (HIS.out.of_cell ((show Below W2.heap.size W2 _ by (repeat (first | exact Below.refl _ _ | refine bg_al ?_ | refine bg_gr ?_ | refine bg_drn ?_ | refine bg_dr ?_ | assumption))).block N HIS.out.lt))⟩)
      (first | (go_at_call 57; refine (beq_any _ _ la la _ (HNL2.out.below (by (repeat (first | exact Below.refl _ _ | refine bg_al ?_ | refine bg_gr ?_ | refine bg_drn ?_ | refine bg_dr ?_ | assumption)))) (HLB2.out.below (by (repeat (first | exact Below.refl _ _ | refine bg_al ?_ | refine bg_gr ?_ | refine bg_drn ?_ | refine bg_dr ?_ | assumption))))).mono ?_; rintro en w2 ⟨rfl, n2, rfl⟩))
    go_wp2_with fail
    go_ret
    refine ⟨by rw [hlt]; simp, ?_, fun h => by rw [hlt] at h; cases h⟩
    exact (HC2.out.drewN _)
  · rename_i hlt
    rw [rounds_succ]
    have HNY : ∀ (ops : Array Oper) (rest : List Oper) (o : Oper) (a : Act) (Q : Exit → Act → World → Prop) (hg : o.guard = none) (it : Operand) (hop : o.op = Op.next it false) (hit : a.eval it = .pointer (some ⟨w.heap.size, 0, none⟩))
        (hDone : wpList Try.prog ops Q rest (a.put o.dst (.tuple #[.bool false])) (W0.drewN (1 + n2))), wpList Try.prog ops Q (o :: rest) a (W0.drewN (1 + n2)) := by
      intro ops rest o a Q hg it hop hit hDone
      exact wl_next hg it hop hit (show Ranging HC (W0.drewN (1 + n2)) N w.heap.size mN 1 (fun _ => False) cnt2 from HR0.out) (fun _ _ => hDone) (fun q' v w1 ob2 cnt' hl => hl.elim)
    have HNY' := Lib.hid HNY
    clear HNY
    go_wp2_with (at_next; refine HNY'.out _ _ _ _ _ rfl _ rfl rfl ?_)
    have hlen : ∀ k, (Builtin.len_ #[80] 3 #[.map (some N)]).run Try.prog (W0.drewN k) = .ok (.int .i64 1) (W0.drewN k) := fun k => lenO ((HR0.out.is).of_cell rfl)
    go_quiet (fail)
    go_wp2_with fail
    go_ret
    have hB0 := HB0.out
    refine ⟨by rw [hlt]; rfl, Below.chg _ (by (repeat (first | exact Below.refl _ _ | refine bg_al ?_ | refine bg_gr ?_ | refine bg_drn ?_ | refine bg_dr ?_ | assumption))), fun _ => by (repeat (first | exact Below.refl _ _ | refine bg_al ?_ | refine bg_gr ?_ | refine bg_drn ?_ | refine bg_dr ?_ | assumption))⟩
end Go.Proofs.Ytcbglojjbgenlaa
