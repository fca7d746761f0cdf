/- Media of a device that is up. -/
import Derived.Test.YtcbglojjbgenlaaHnG
import Derived.Test.YtcbglojjbgenlaaHnL
namespace Go.Proofs.Ytcbglojjbgenlaa
open Go.RowKit Go.MapL Go.ChangeMaps Go.MapKept
set_option linter.unusedSimpArgs false
set_option linter.unusedVariables false
attribute [local go_sem] size_gr cell_gr frozen_gr setCell_gr gr_drew gr_drewN lt_k lt_kc le_k le_kc sub_kc nil29 nil28 nil49 mkmap size_setBlock cell_setB st_hash1
attribute [local go_sem ↓] Go.wp_at_zero Go.wp_at_succ

/-- a register's load, kept whole -/
def RegLoad (v : Value) := Instr.loadAt 39 v
theorem loadAt_reg (v : Value) : Instr.loadAt 39 v = RegLoad v := rfl
theorem ld_reg {W : World} {b o : Nat} {L : List Value} (hL : L.length = 33) (h : W.rangeAt b o L) : (RegLoad (.pointer (some ⟨b, o, none⟩))).run Try.prog W = .ok (.agg L.toArray) W := run_loadAt_mid _ _ _ _ _ _ h Try.underlying39 rfl (by rw [hL]; exact regInfo)
attribute [local go_sem ↓] loadAt_reg
def OneL (L : List Value) : Prop := ∀ v ∈ L, v.oneCell' = true
/-- a media's cells, its pair a list -/
def medL (sl rm : Int) (b l : Value) (L : List Value) : List Value := [.int .i64 sl, .int .i64 rm, b, l] ++ L
theorem medL_len {sl rm : Int} {b l : Value} {L : List Value} (h : L.length = 33) : (medL sl rm b l L).length = 37 := by simp [medL, h]
theorem medL_is (sl rm : Int) (b l : Value) (c : Int) (t : H32) : medL sl rm b l (regC c t) = medC sl rm b l c t := by simp [medL, medC, regC]
theorem fold_med {sl rm : Int} {lA : Option Addr} {n c : Nat} {L : List Value} (h : L.length = 33) : List.foldl (fun cs x => cs.setIfInBounds (4 + x.2) x.1) #[.int .i64 sl, .int .i64 rm, .slice none 0 0, .slice lA n c, Value.int .i64 0, Value.int .u8 0, Value.int .u8 0, Value.int .u8 0, Value.int .u8 0, Value.int .u8 0, Value.int .u8 0, Value.int .u8 0, Value.int .u8 0, Value.int .u8 0, Value.int .u8 0, Value.int .u8 0, Value.int .u8 0, Value.int .u8 0, Value.int .u8 0, Value.int .u8 0, Value.int .u8 0, Value.int .u8 0, Value.int .u8 0, Value.int .u8 0, Value.int .u8 0, Value.int .u8 0, Value.int .u8 0, Value.int .u8 0, Value.int .u8 0, Value.int .u8 0, Value.int .u8 0, Value.int .u8 0, Value.int .u8 0, Value.int .u8 0, Value.int .u8 0, Value.int .u8 0, Value.int .u8 0] L.zipIdx = (medL sl rm (.slice none 0 0) (.slice lA n c) L).toArray := by
  rw [fold_set _ 4 0 _ (by simp [h])]
  simp [medL, h]
theorem st_medL {W : World} {g : Nat} {sl rm : Int} {bA lA : Option Addr} {bn bc n c : Nat} {L : List Value} {cs : Array Value} (hL : L.length = 33) (h1 : OneL L) (hg : W.heap.size = g) (hc : cs.size = 37) :
    (storeCells ⟨g, 0, none⟩ (medL sl rm (.slice bA bn bc) (.slice lA n c) L) 0).run Try.prog (W.alloc (.cells cs 54)) = .ok () (W.alloc (.cells (medL sl rm (.slice bA bn bc) (.slice lA n c) L).toArray 54)) := by
  subst hg
  have := run_storeCells_new (P := Try.prog) W 54 cs (medL sl rm (.slice bA bn bc) (.slice lA n c) L).toArray (by rw [List.size_toArray, medL_len hL]; exact medInfo) (by simp [hc, medL_len hL]) (all_oneCell_toArray (fun u hu => by
    unfold medL at hu
    rcases List.mem_append.1 hu with hu | hu
    · simp at hu
      rcases hu with rfl | rfl | rfl | rfl <;> rfl
    · exact h1 u hu))
  simpa using this
theorem setRow_gr (w : World) (D : Dl) (g : Nat) (c : Array Value) (hg : g < w.heap.size) : (w.gr D).setRow g c = (w.setRow g c).gr D := by
  unfold World.setRow World.gr
  congr 1
  apply Array.ext_getElem?
  intro i
  simp only [Array.getElem?_modify, Array.getElem?_append, Array.size_modify]
  by_cases h : i < w.heap.size
  · simp [h]
  · have : ¬ g = i := by omega
    simp [h, this]
theorem setRow_last (W : World) (c c' : Array Value) (t : TypeId) : (W.alloc (.cells c t)).setRow W.heap.size c' = W.alloc (.cells c' t) := by
  unfold World.setRow World.alloc
  congr 1
  apply Array.ext_getElem?
  intro i
  simp only [Array.getElem?_modify, Array.getElem?_push]
  by_cases h : i = W.heap.size
  · simp [h]
  · have : ¬ W.heap.size = i := fun e => h e.symm
    simp [h, this]
theorem st_medLg {W : World} {D2 : Dl} {g : Nat} {sl rm : Int} {bA lA : Option Addr} {bn bc n c : Nat} {L : List Value} {cs : Array Value} (hL : L.length = 33) (h1 : OneL L) (hg : W.heap.size = g) (hc : cs.size = 37) :
    (storeCells ⟨g, 0, none⟩ (medL sl rm (.slice bA bn bc) (.slice lA n c) L) 0).run Try.prog ((W.alloc (.cells cs 54)).gr D2) = .ok () ((W.alloc (.cells (medL sl rm (.slice bA bn bc) (.slice lA n c) L).toArray 54)).gr D2) := by
  subst hg
  have hh : ((W.alloc (.cells cs 54)).gr D2).heap[W.heap.size]? = some (.cells cs 54 (0, 0)) := by
    rw [(below_gr _ D2).block _ (by simp), heap_alloc_last]
  rw [run_storeCells_at Try.prog W.heap.size 0 _ (medL sl rm (.slice bA bn bc) (.slice lA n c) L) 0 _ _ hh (by rw [medL_len hL]; omega) (fun u hu => by
    unfold medL at hu
    rcases List.mem_append.1 hu with hu | hu
    · simp at hu
      rcases hu with rfl | rfl | rfl | rfl <;> rfl
    · exact h1 u hu)]
  rw [setRow_gr _ _ _ _ (by simp), setRow_last]
  congr 4
  simp [List.drop_eq_nil_of_le (show cs.toList.length ≤ (medL sl rm (.slice bA bn bc) (.slice lA n c) L).length by rw [medL_len hL]; simp [hc])]
attribute [local go_sem] fold_med st_medL st_medLg medL_len

/-- behind one blob more -/
def YStep (W5 : World) (M : Nat) (sl rm : Int) (bA : Option Addr) (k bc : Nat) (lA : Option Addr) (ll lc : Nat) (L : List Value) (base : Nat) (ks : List H32) (vals : List Value) (q : H32) (l : Bs) (wx : World) : Prop :=
  ∃ A3 c3 bA9 bc9, wx.heap[M]? = some (.cells (medL sl rm (.slice bA9 (k + 1) bc9) (.slice lA ll lc) L).toArray 54 (0, 0)) ∧ wx.ownsRow base 101 33 (.slice bA9 (k + 1) bc9) (k + 1) (blobsC ks vals ++ blobC q (.slice A3 l.length c3)) ∧
    OwnB wx W5.heap.size (.slice A3 l.length c3) l ∧ Chg (fun j => j = M ∨ (Value.slice bA k bc).ownBlock = some j) W5 wx
theorem y_drew {W5 : World} {M : Nat} {sl rm : Int} {bA : Option Addr} {k bc : Nat} {lA : Option Addr} {ll lc : Nat} {L : List Value} {base : Nat} {ks : List H32} {vals : List Value} {q : H32} {l : Bs} {wx : World} (h : YStep W5 M sl rm bA k bc lA ll lc L base ks vals q l wx) : YStep W5 M sl rm bA k bc lA ll lc L base ks vals q l wx.drew := by
  obtain ⟨A3, c3, bA9, bc9, h1, h2, h3, h4⟩ := h
  exact ⟨A3, c3, bA9, bc9, h1, h2, h3, h4.drewN 1⟩
theorem y_step {W5 W6 w9 : World} {M : Nat} {sl rm : Int} {bA bA9 : Option Addr} {k bc bc9 : Nat} {lA A3 : Option Addr} {ll lc c3 : Nat} {L : List Value} {base : Nat} {ks : List H32} {vals ys : List Value} {q : H32} {l : Bs}
    (hm : w9.heap[M]? = some (.cells (medL sl rm (.slice bA k bc) (.slice lA ll lc) L).toArray 54 (0, 0))) (hap : Appended W6 base 101 33 (.slice bA k bc) (k + 1) (blobsC ks vals ++ blobC q (.slice A3 l.length c3)) w9 (.slice bA9 (k + 1) bc9))
    (ho : OwnB w9 W5.heap.size (.slice A3 l.length c3) l) (hc : Chg (fun j => (Value.slice bA k bc).ownBlock = some j) W5 w9) (hr : W5.ownsRow base 101 33 (.slice bA k bc) k ys) :
    YStep W5 M sl rm bA k bc lA ll lc L base ks vals q l (w9.setCell ⟨M, 2, none⟩ (.slice bA9 (k + 1) bc9)) := by
  have hcm : Chg (fun j => j = M) w9 (w9.setCell ⟨M, 2, none⟩ (.slice bA9 (k + 1) bc9)) := chg_set (S := fun j => j = M) (Chg.refl _ _) rfl _
  have hne : ∀ {k' : Nat} {c : Array Value} {t : TypeId} {fr : Nat × Nat}, w9.heap[k']? = some (.cells c t fr) → t ≠ 54 → ¬ k' = M := by
    rintro k' c t fr h1 h2 rfl
    rw [hm] at h1
    injection h1 with h1
    injection h1 with _ h1
    exact h2 h1.symm
  refine ⟨A3, c3, bA9, bc9, ?_, own_chg hap.1 hcm (fun b hb => by obtain ⟨_, _, hh⟩ := own_heap hap.1 hb; exact hne hh (by decide)), own_chg ho hcm (fun b hb => by obtain ⟨_, _, hh⟩ := own_heap ho hb; exact hne hh (by decide)), (hc.mono (fun j _ e => Or.inr e)).trans (hcm.mono (fun j _ e => Or.inl e))⟩
  rw [setCell_row hm]
  rfl
theorem media_round {wr W5 w4 w' : World} {M : Nat} {sl rm : Int} {bA : Option Addr} {k bc : Nat} {lA : Option Addr} {ll lc base : Nat} {L : List Value} {kl : List H32} {vals : List Value} {q : H32} {l : Bs} {bl : H32 → Option Bs}
    (hY : YStep W5 M sl rm bA k bc lA ll lc L w4.heap.size (kl.take k) vals q l w') (hk : k < kl.length) (hq : kl[k] = q) (hl : bl q = some l) (hvl : vals.length = k) (hvs : ∀ i (h : i < vals.length) (h' : i < kl.length), ∃ l, bl kl[i] = some l ∧ OwnB wr base vals[i] l)
    (hbr : wr.ownsRow w4.heap.size 101 33 (.slice bA k bc) k (blobsC (kl.take k) vals)) (hmr : wr.heap[M]? = some (.cells (medL sl rm (.slice bA k bc) (.slice lA ll lc) L).toArray 54 (0, 0))) (hb5 : Below wr.heap.size wr W5) (hcr : Chg (fun j => j = M) w4 wr) (h45 : w4.heap.size ≤ W5.heap.size) (hb4 : base ≤ w4.heap.size) :
    ∃ (k1 : Nat) (bA : Option Addr) (bc : Nat) (vals : List Value), k1 ≤ kl.length ∧ Value.int .i64 ((k : Int) + 1) = .int .i64 k1 ∧ w'.heap[M]? = some (.cells (medL sl rm (.slice bA k1 bc) (.slice lA ll lc) L).toArray 54 (0, 0)) ∧
      w'.ownsRow w4.heap.size 101 33 (.slice bA k1 bc) k1 (blobsC (kl.take k1) vals) ∧ vals.length = k1 ∧ (∀ i (h : i < vals.length) (h' : i < kl.length), ∃ l, bl kl[i] = some l ∧ OwnB w' base vals[i] l) ∧ Chg (fun j => j = M) w4 w' := by
  obtain ⟨A3, c3, bA9, bc9, h1, h2, h3, h4⟩ := hY
  have htk : (kl.take k).length = k := by rw [List.length_take]; omega
  have hC : Chg (fun j => j = M ∨ (Value.slice bA k bc).ownBlock = some j) wr w' := (Below.chg _ hb5).trans h4
  refine ⟨k + 1, bA9, bc9, vals ++ [.slice A3 l.length c3], by omega, by push_cast; rfl, h1, ?_, by simp [hvl], fun i hi hi' => ?_, ?_⟩
  · rw [List.take_succ_eq_append_getElem hk, blobs_snoc _ _ (by rw [hvl, htk]), hq]
    exact h2
  · by_cases e : i < vals.length
    · rw [List.getElem_append_left e]
      obtain ⟨l', g1, g2⟩ := hvs i e hi'
      refine ⟨l', g1, own_chg g2 hC (fun b hb hS => ?_)⟩
      obtain ⟨_, _, hh⟩ := own_heap g2 hb
      rcases hS with rfl | hS
      · rw [hmr] at hh
        injection hh with hh
        injection hh with _ hh
        exact absurd hh (by decide)
      · obtain ⟨_, _, h5⟩ := own_heap hbr hS
        rw [hh] at h5
        injection h5 with h5
        injection h5 with _ h5
        exact absurd h5 (by decide)
    · have hik : i = vals.length := by simp at hi; omega
      subst hik
      rw [List.getElem_append_right (Nat.le_refl _)]
      simp only [Nat.sub_self, List.getElem_singleton]
      have : kl[vals.length] = q := by
        simp only [hvl]
        exact hq
      rw [this]
      exact ⟨l, hl, own_mono h3 (by omega)⟩
  · refine ((hcr.mono (fun j _ e => Or.inl e)).trans hC).mono (fun j hj hS => ?_)
    rcases hS with hS | hS
    · exact hS
    · have := own_ge hbr j hS
      omega
theorem blobC_one {q : H32} {v : Value} (h : v.oneCell' = true) : ∀ u ∈ blobC q v, u.oneCell' = true := fun u hu => by
  unfold blobC at hu
  rcases List.mem_append.1 hu with hu | hu
  · exact bv_one _ u hu
  · simp at hu; subst hu; exact h
theorem medL_one {sl rm : Int} {bA lA : Option Addr} {bn bc n c : Nat} {L : List Value} (h1 : OneL L) : OneC (medL sl rm (.slice bA bn bc) (.slice lA n c) L).toArray := all_oneCell_toArray (fun u hu => by
  unfold medL at hu
  rcases List.mem_append.1 hu with hu | hu
  · simp at hu
    rcases hu with rfl | rfl | rfl | rfl <;> rfl
  · exact h1 u hu)
theorem blobsT : SlT Try.prog 52 101 (.agg (List.replicate 32 (Value.int .u8 0) ++ [Value.slice none 0 0]).toArray) 33 56 := ⟨Try.underlying52, by kernel_rfl, by rfl, by decide⟩
theorem fold_blob {q : H32} {A : Option Addr} {n c : Nat} : (List.foldl (fun cs x => cs.setIfInBounds x.2 x.1) #[Value.int .u8 0, Value.int .u8 0, Value.int .u8 0, Value.int .u8 0, Value.int .u8 0, Value.int .u8 0, Value.int .u8 0, Value.int .u8 0, Value.int .u8 0, Value.int .u8 0, Value.int .u8 0, Value.int .u8 0, Value.int .u8 0, Value.int .u8 0, Value.int .u8 0, Value.int .u8 0, Value.int .u8 0, Value.int .u8 0, Value.int .u8 0, Value.int .u8 0, Value.int .u8 0, Value.int .u8 0, Value.int .u8 0, Value.int .u8 0, Value.int .u8 0, Value.int .u8 0, Value.int .u8 0, Value.int .u8 0, Value.int .u8 0, Value.int .u8 0, Value.int .u8 0, Value.int .u8 0, Value.slice none 0 0] (q.1.map bv).zipIdx).setIfInBounds 32 (Value.slice A n c) = (blobC q (.slice A n c)).toArray := by
  have := fold_set (q.1.map bv) 0 0 #[Value.int .u8 0, Value.int .u8 0, Value.int .u8 0, Value.int .u8 0, Value.int .u8 0, Value.int .u8 0, Value.int .u8 0, Value.int .u8 0, Value.int .u8 0, Value.int .u8 0, Value.int .u8 0, Value.int .u8 0, Value.int .u8 0, Value.int .u8 0, Value.int .u8 0, Value.int .u8 0, Value.int .u8 0, Value.int .u8 0, Value.int .u8 0, Value.int .u8 0, Value.int .u8 0, Value.int .u8 0, Value.int .u8 0, Value.int .u8 0, Value.int .u8 0, Value.int .u8 0, Value.int .u8 0, Value.int .u8 0, Value.int .u8 0, Value.int .u8 0, Value.int .u8 0, Value.int .u8 0, Value.slice none 0 0] (by simp [q.2])
  simp only [Nat.zero_add, Nat.add_zero] at this
  rw [this, q_len]
  apply Array.ext'
  rw [Array.toList_setIfInBounds]
  simp only [List.toList_toArray, List.take_zero, List.nil_append]
  show List.set (q.1.map bv ++ [Value.slice none 0 0]) 32 (Value.slice A n c) = _
  rw [List.set_append_right _ _ (by simp [q.2])]
  simp [q.2, blobC]
theorem fold_blob2 {q : H32} {v : Value} : List.foldl (fun cs x => cs.setIfInBounds x.2 x.1) #[Value.int .u8 0, Value.int .u8 0, Value.int .u8 0, Value.int .u8 0, Value.int .u8 0, Value.int .u8 0, Value.int .u8 0, Value.int .u8 0, Value.int .u8 0, Value.int .u8 0, Value.int .u8 0, Value.int .u8 0, Value.int .u8 0, Value.int .u8 0, Value.int .u8 0, Value.int .u8 0, Value.int .u8 0, Value.int .u8 0, Value.int .u8 0, Value.int .u8 0, Value.int .u8 0, Value.int .u8 0, Value.int .u8 0, Value.int .u8 0, Value.int .u8 0, Value.int .u8 0, Value.int .u8 0, Value.int .u8 0, Value.int .u8 0, Value.int .u8 0, Value.int .u8 0, Value.int .u8 0, Value.slice none 0 0] (blobC q v).zipIdx = (blobC q v).toArray := fold_all _ _ (by rw [blobC_len]; rfl)
attribute [local go_sem ↓] loadAt_key
theorem fold_size (l : List (Value × Nat)) : ∀ a : Array Value, (List.foldl (fun cs x => cs.setIfInBounds x.2 x.1) a l).size = a.size := by
  induction l with
  | nil => intro a; rfl
  | cons x r ih => intro a; rw [List.foldl_cons, ih]; simp
attribute [local go_sem] fold_blob fold_blob2 blobC_len fold_size
set_option maxHeartbeats 4000000 in
set_option maxRecDepth 8000 in
theorem media_any (D B nB : Nat) (f : Fd) (mB : H32 → Option Value) (bl : H32 → Option Bs) (log : Bs) (w : World) (hD : DevAt w D f) (hfB : f.bm = .map (some B)) (hB : MapIs HC w B mB nB) (hn : nB ≤ 1099511627776)
    (hdb : ∀ q, OptR (fun v l => SB w v l ∧ l.length ≤ 1048576) (mB q) (bl q)) (lA0 : Option Addr) (lc0 : Nat) (hfl : f.log = .slice lA0 log.length lc0) (hlog : SB w (.slice lA0 log.length lc0) log) (hll : log.length ≤ 1048576) (hkn : ∀ kl : List H32, kl.Nodup → (∀ q, q ∈ kl ↔ (bl q).isSome = true) → kl.length ≤ 1099511627776) :
    Calls Try.prog 22 #[.pointer (some ⟨D, 0, none⟩)] w fun e w' => ∃ bA bc lA lc kl vals, e = .returned (.agg (medC f.slots f.room (.slice bA kl.length bc) (.slice lA log.length lc) f.cnt f.tag).toArray) ∧
      kl.Pairwise (fun x y => cmpH x y < 0) ∧ (∀ q, q ∈ kl ↔ (bl q).isSome = true) ∧ BlobsAt w' w.heap.size (.slice bA kl.length bc) kl vals ∧ vals.length = kl.length ∧ (∀ i (h : i < kl.length) (h' : i < vals.length), ∃ l, bl kl[i] = some l ∧ OwnB w' w.heap.size vals[i] l) ∧ OwnB w' w.heap.size (.slice lA log.length lc) log ∧ Below w.heap.size w w' := by
  have HRI := Lib.hid (fun W (hb : Below w.heap.size w W) => rising_any B nB mB W (map_bel hB hb) hn)
  have HREG := Lib.hid (dev_reg hD)
  have HKN := Lib.hid hkn
  have HL := Lib.hid hlog
  have HLL := Lib.hid hll
  have HDB := Lib.hid hdb
  have HB := Lib.hid hB
  obtain ⟨hc0, hc1, hc2, hc3, hc4, -⟩ := dev_c hD
  rw [hfB] at hc2
  rw [hfl] at hc3
  have hDlt : D < w.heap.size := World.block_lt_of_cell? w _ hc2
  obtain ⟨L, hL⟩ : ∃ L, regC f.cnt f.tag = L := ⟨_, rfl⟩
  rw [hL] at HREG
  have hrl : L.length = 33 := by rw [← hL]; exact reg_len _ _
  have hru := Try.underlying39
  have hri : ((Try.prog).info? 39).map (·.size) = some L.length := by rw [hrl]; exact regInfo
  have hL1 : OneL L := by rw [← hL]; exact (fun v hv => (Array.all_eq_true_iff_forall_mem.1 (reg_one _ _)) v (by simpa using hv))
  have HLQ := Lib.hid hL
  clear hD hfB hB hn hdb hlog hll hfl hL hkn
  go_enter Try.func22, Try.ntmps22
  go_wp2_with fail
  refine with_world (fun W0 hW0 => ?_)
  have hB0 : Below w.heap.size w W0 := by rw [hW0]; (repeat (first | exact Below.refl _ _ | refine bg_al ?_ | refine bg_gr ?_ | refine bg_drn ?_ | refine bg_dr ?_ | assumption))
  have HB0 := Lib.hid hB0
  have z0 : D < W0.heap.size := by have := hB0.size; omega
  have HZ0 := Lib.hid (show W0.heap.size = w.heap.size + 1 by rw [hW0]; simp)
  have k0 : W0.cell? ⟨D, 0, none⟩ = some (.int .i64 f.slots) := by rw [hB0.cell (p := ⟨D, 0, none⟩) hDlt]; exact hc0
  have k1 : W0.cell? ⟨D, 1, none⟩ = some (.int .i64 f.room) := by rw [hB0.cell (p := ⟨D, 1, none⟩) hDlt]; exact hc1
  have k3 : W0.cell? ⟨D, 3, none⟩ = some (.slice lA0 log.length lc0) := by rw [hB0.cell (p := ⟨D, 3, none⟩) hDlt]; exact hc3
  have HW0 := Lib.hid hW0
  obtain ⟨Zc, hzc, hzs⟩ : ∃ Zc, W0.heap[w.heap.size]? = some (.cells Zc 54 (0, 0)) ∧ Zc.size = 37 := ⟨_, by rw [hW0]; exact heap_alloc_last _ _, rfl⟩
  have HZC := Lib.hid hzc
  have HZS := Lib.hid hzs
  clear hB0 hW0 hzc hzs
  go_cut [3] (fun s3 wx => ∃ M A2 c2, s3 = .pointer (some ⟨M, 0, none⟩) ∧ W0.heap.size ≤ M ∧ wx.heap[M]? = some (.cells (medL f.slots f.room (.slice none 0 0) (.slice A2 log.length c2) L).toArray 54 (0, 0)) ∧ OwnB wx W0.heap.size (.slice A2 log.length c2) log ∧ Below W0.heap.size W0 wx)
  case first =>
    go_region_held3 (fun W => (∀ (b o : Nat), b < W0.heap.size → W.cell? ⟨b, o, none⟩ = W0.cell? ⟨b, o, none⟩) ∧ (RegLoad (.pointer (some ⟨D, 4, none⟩))).run Try.prog W = .ok (.agg L.toArray) W)
      (exact ⟨cellB (by (repeat (first | exact Below.refl _ _ | refine bg_al ?_ | refine bg_gr ?_ | refine bg_drn ?_ | refine bg_dr ?_ | assumption))), ld_reg hrl (range_bel HREG.out (HB0.out.trans ((show Below W0.heap.size W0 _ by (repeat (first | exact Below.refl _ _ | refine bg_al ?_ | refine bg_gr ?_ | refine bg_drn ?_ | refine bg_dr ?_ | assumption))).mono HB0.out.size)))⟩)
      (first | (go_at_call 33; refine (bclone_any _ log _ ((HL.out.below HB0.out).below (by (repeat (first | exact Below.refl _ _ | refine bg_al ?_ | refine bg_gr ?_ | refine bg_drn ?_ | refine bg_dr ?_ | assumption)))) (by have := HLL.out; omega)).mono ?_; rintro en w2 ⟨A2, c2, rfl, ho2, hb2⟩; obtain ⟨D2, rfl⟩ := gr_of_below hb2; clear hb2; have HO2 := Lib.hid ho2; clear ho2))
    all_goals go_wp2_with fail
    all_goals
      go_meet
      exact ⟨_, A2, c2, rfl, by omega, by (repeat (first | (refine blk_new ?_; first | rfl | (simp only [World.size_alloc, size_gr, World.size_setCell, World.size_drew]; done) | (simp only [World.size_alloc, size_gr, World.size_setCell, World.size_drew]; omega) | omega) | refine blk_dr ?_ | refine blk_drn ?_ | refine blk_al (by simp only [World.size_alloc, size_gr, World.size_setCell, World.size_drew]; omega) ?_ | refine blk_gr (by simp only [World.size_alloc, size_gr, World.size_setCell, World.size_drew]; omega) ?_ | assumption)), ((ownB_at HO2.out) _ (by (repeat (first | (refine at_base ?_; simp only [World.size_alloc, size_gr, World.size_setCell, World.size_drew]; done) | (refine at_base ?_; rfl) | refine at_al ?_ | refine at_gr ?_ | refine at_drn ?_ | refine at_dr ?_ | assumption)))).mono (by simp), by (repeat (first | exact Below.refl _ _ | refine bg_al ?_ | refine bg_gr ?_ | refine bg_drn ?_ | refine bg_dr ?_ | assumption))⟩
  case rest =>
    obtain ⟨M, A2, c2, rfl, hM, hmed, holog, hbW⟩ := hcut
    have HM := Lib.hid hM
    have HMED := Lib.hid hmed
    have HOL := Lib.hid holog
    have HBW := Lib.hid (HB0.out.trans (hbW.mono HB0.out.size))
    have HBX := Lib.hid hbW
    have hMlt : M < wc.heap.size := (Array.getElem?_eq_some_iff.1 hmed).1
    have hDlc : D < wc.heap.size := by have := HBW.out.size; omega
    have j2 : wc.cell? ⟨D, 2, none⟩ = some (.map (some B)) := by rw [HBW.out.cell (p := ⟨D, 2, none⟩) hDlt]; exact hc2
    clear hM hmed holog hbW k0 k1 k3
    go_wp2_with (first
      | (go_at_call 38; refine (HRI.out _ HBW.out).mono ?_; rintro en w4 ⟨v4, kl, rfl, hk4, hp4, hm4, hb4⟩; obtain ⟨kA, kc, rfl⟩ := row_slice hk4; have HK4 := Lib.hid hk4; have HP4 := Lib.hid hp4; have HM4 := Lib.hid hm4; have HB4 := Lib.hid hb4; clear hk4 hp4 hm4 hb4))
    have hKr : ∀ i (hi : i < kl.length) (W : World), Chg (fun j => j = M) w4 W → W.rangeAt (match kA with | some a => a.block | none => 0) (i * 32) (kl[i].1.map bv) := fun i hi W hc => by
      obtain ⟨g, cap, e, -⟩ := own_form HK4.out (by omega)
      injection e with e1 _ e3
      subst e1
      refine range_chg (keys_range HK4.out i hi) hc (fun e => ?_)
      obtain ⟨_, _, hh⟩ := own_heap HK4.out (k := g) rfl
      have hm := (HB4.out.block _ hMlt).trans HMED.out
      rw [← e, hh] at hm
      injection hm with hm
      injection hm with _ hm
      exact absurd hm (by decide)
    have HKR := Lib.hid hKr
    have hkc : (kl.length : Int) ≤ kc := own_cap HK4.out
    have HNL := Lib.hid (HKN.out kl (sorted_nodup2 HP4.out) (fun q => by
      have h1 : q ∈ kl ↔ (mB q).isSome = true := HM4.out q
      rw [h1, (HDB.out q).none]))
    clear hKr
    go_loopw [33] (fun i wr => ∃ (k : Nat) (bA : Option Addr) (bc : Nat) (vals : List Value), k ≤ kl.length ∧ i = .int .i64 k ∧ wr.heap[M]? = some (.cells (medL f.slots f.room (.slice bA k bc) (.slice A2 log.length c2) L).toArray 54 (0, 0)) ∧
      wr.ownsRow w4.heap.size 101 33 (.slice bA k bc) k (blobsC (kl.take k) vals) ∧ vals.length = k ∧ (∀ i (h : i < vals.length) (h' : i < kl.length), ∃ l, bl kl[i] = some l ∧ OwnB wr w.heap.size vals[i] l) ∧ Chg (fun j => j = M) w4 wr) (fun i _ => kl.length - (intOf i).toNat)
    case atStart =>
      exact ⟨0, none, 0, [], by omega, rfl, (HB4.out.block _ hMlt).trans HMED.out, own_nil _ _ _ _, rfl, fun i h => by simp at h, Chg.refl _ _⟩
    case round =>
      obtain ⟨k, bA, bc, vals, hk, rfl, hmr, hbr, hvl, hvs, hcr⟩ := hrel
      have HMR := Lib.hid hmr
      have HBR := Lib.hid hbr
      have HVL := Lib.hid hvl
      have HVS := Lib.hid hvs
      have HCR := Lib.hid hcr
      have hz4 : w.heap.size < w4.heap.size := by
        have h1 := HB4.out.size
        have h2 := HBW.out.size
        have h3 := HM.out
        have h4 := HZ0.out
        omega
      have hDr : D < wr.heap.size := by have := hcr.size; omega
      have hDM : D ≠ M := by have := HM.out; have := HZ0.out; omega
      clear hmr hbr hvl hvs hcr
      by_cases h1 : k < kl.length
      · obtain ⟨gk, kcap, e1, -⟩ := own_form HK4.out (by omega)
        injection e1 with e1 _ e3
        subst e1 e3
        obtain ⟨qk, hqk⟩ : ∃ qk, kl[k] = qk := ⟨kl[k]'h1, rfl⟩
        have HR := Lib.hid (show ∀ W : World, Chg (fun j => j = M) w4 W → W.rangeAt gk (k * 32) (qk.1.map bv) from fun W hc => by rw [← hqk]; exact HKR.out k h1 W hc)
        have HQK := Lib.hid hqk
        have h1' : (k : Int) < (kl.length : Int) := by omega
        have hqu := Try.underlying33
        have hql := q_len qk
        have hqi := hash_info qk
        have H1 := Lib.hid h1
        clear hqk
        go_wp2_with (first
          | (refine wpList_load_mid rfl 33 _ rfl _ _ (by rfl) (qk.1.map bv) _ (HR.out _ HCR.out) Try.underlying33 rfl (hash_info qk) ?_))
        obtain ⟨lk, hlk⟩ : ∃ l, bl qk = some l := by
          have h1 : qk ∈ kl := HQK.out ▸ List.getElem_mem H1.out
          have h2 : qk ∈ kl ↔ (mB qk).isSome = true := HM4.out qk
          rw [(HDB.out qk).none] at h2
          exact Option.isSome_iff_exists.1 (h2.1 h1)
        have hO := HDB.out qk
        rw [hlk] at hO
        obtain ⟨v0, hv0, hsb0, hl0⟩ := hO.some
        obtain ⟨vA, vc, rfl, -⟩ := id hsb0
        have hWr : Below w.heap.size w wr := (HBW.out.trans (HB4.out.mono HBW.out.size)).trans (HCR.out.bel (fun j hj => by have := HM.out; have := HZ0.out; omega) (by have h1 := HBW.out.size; have h2 := HB4.out.size; omega))
        have hmapr : MapIs HC wr B mB nB := map_bel HB.out hWr
        have HLK := Lib.hid hlk
        have HSB0 := Lib.hid hsb0
        have HL0 := Lib.hid hl0
        have HWR := Lib.hid hWr
        have HMAPR := Lib.hid hmapr
        have HV0 := Lib.hid hv0
        clear hlk hO hv0 hsb0 hl0 hWr hmapr
        refine with_world (fun W5 hW5 => ?_)
        have hb5 : Below wr.heap.size wr W5 := by rw [hW5]; (repeat (first | exact Below.refl _ _ | refine bg_al ?_ | refine bg_gr ?_ | refine bg_drn ?_ | refine bg_dr ?_ | assumption))
        have hz5 : W5.heap.size = wr.heap.size + 1 := by rw [hW5]; simp
        have hkb : W5.rangeAt wr.heap.size 0 (qk.1.map bv) := by rw [hW5]; exact range_hash wr _ qk rfl
        have HB5 := Lib.hid hb5
        have HZ5 := Lib.hid hz5
        have hm5 := (hb5.block _ (by have := (Array.getElem?_eq_some_iff.1 HMR.out).1; exact this)).trans HMR.out
        have HM5 := Lib.hid hm5
        have k2M : W5.cell? ⟨M, 2, none⟩ = some (.slice bA k bc) := by rw [cell_of_row _ _ _ _ _ _ hm5]; rfl
        have kfM : W5.frozen? ⟨M, 2, none⟩ = false := frozen_of_row _ _ _ _ _ hm5
        have hM5 : M < W5.heap.size := World.block_lt_of_cell? _ _ k2M
        have hD5 : D < W5.heap.size := by omega
        have k2D : W5.cell? ⟨D, 2, none⟩ = some (.map (some B)) := by
          rw [(HWR.out.trans (hb5.mono HWR.out.size)).cell (p := ⟨D, 2, none⟩) hDlt]; exact hc2
        have hld : (KeyLoad (.pointer (some ⟨wr.heap.size, 0, none⟩))).run Try.prog W5.drew = .ok (.agg (qk.1.map bv).toArray) W5.drew := ld_key (range_bel hkb (by (repeat (first | exact Below.refl _ _ | refine bg_al ?_ | refine bg_gr ?_ | refine bg_drn ?_ | refine bg_dr ?_ | assumption))))
        have hld2 : ∀ E : Dl, (KeyLoad (.pointer (some ⟨wr.heap.size, 0, none⟩))).run Try.prog (W5.gr E) = .ok (.agg (qk.1.map bv).toArray) (W5.gr E) := fun E => ld_key (range_bel hkb (below_gr W5 E))
        have hlu : (Instr.lookup 76 (.map (some B)) (.agg (qk.1.map bv).toArray) false).run Try.prog W5.drew = .ok (.slice vA lk.length vc) W5.drew := by
          have := lookB1 W5.drew B nB mB qk (map_bel HMAPR.out (hb5.drew))
          rw [HV0.out] at this
          exact this
        have HBR5 := Lib.hid (own_below HBR.out hb5)
        have hw45 : w4.heap.size ≤ W5.heap.size := by have h1 := HCR.out.size; have h2 := HZ5.out; omega
        have hww4 : w.heap.size ≤ w4.heap.size := by omega
        have hkk : k ≤ 1099511627775 := by have := HNL.out; have := H1.out; omega
        have hw5 : w.heap.size ≤ W5.heap.size := by have := HWR.out.size; omega
        clear hW5 hb5 hz5 hm5 hkb
        go_region_law (first
          | (refine step_ap blobsT (by rfl) (by rfl) (by rfl) (own_below HBR5.out (show Below W5.heap.size W5 _ by (repeat (first | exact Below.refl _ _ | refine bg_al ?_ | refine bg_gr ?_ | refine bg_drn ?_ | refine bg_dr ?_ | assumption)))) (by rfl) (Src.block (m := 1) (cs := (blobC qk (.slice A3 lk.length c3)).toArray) (t := 101) (fr := (0, 0)) (by (repeat (first | (refine blk_new ?_; first | rfl | (simp only [World.size_alloc, size_gr, World.size_setCell, World.size_drew]; done) | (simp only [World.size_alloc, size_gr, World.size_setCell, World.size_drew]; omega) | omega) | refine blk_dr ?_ | refine blk_drn ?_ | refine blk_al (by simp only [World.size_alloc, size_gr, World.size_setCell, World.size_drew]; omega) ?_ | refine blk_gr (by simp only [World.size_alloc, size_gr, World.size_setCell, World.size_drew]; omega) ?_ | assumption))) (by rw [List.size_toArray, blobC_len])) (blobC_one rfl) (by simp only [maxLen]; omega) (by omega) (by simp only [World.size_alloc, size_gr, World.size_drew]; omega) ?_; intro v9 w9 hap; obtain ⟨bA9, bc9, rfl⟩ := row_slice hap.1; have hm9 := ap_blk hap (own_below HBR5.out (show Below W5.heap.size W5 _ by (repeat (first | exact Below.refl _ _ | refine bg_al ?_ | refine bg_gr ?_ | refine bg_drn ?_ | refine bg_dr ?_ | assumption)))) (by decide) (((show Below W5.heap.size W5 _ by (repeat (first | exact Below.refl _ _ | refine bg_al ?_ | refine bg_gr ?_ | refine bg_drn ?_ | refine bg_dr ?_ | assumption))).block _ hM5).trans HM5.out); have HM9 := Lib.hid hm9; have n2 : w9.cell? ⟨M, 2, none⟩ = some (.slice bA k bc) := (by rw [cell_of_row _ _ _ _ _ _ hm9]; rfl); have nf2 : w9.frozen? ⟨M, 2, none⟩ = false := frozen_of_row _ _ _ _ _ hm9; have nlt : M < w9.heap.size := World.block_lt_of_cell? _ _ n2; have HAP := Lib.hid hap; have HO9 := Lib.hid (show OwnB w9 W5.heap.size (.slice A3 lk.length c3) lk from own_apc (((ownB_at HO3.out) _ (by (repeat (first | (refine at_base ?_; simp only [World.size_alloc, size_gr, World.size_setCell, World.size_drew]; done) | (refine at_base ?_; rfl) | refine at_al ?_ | refine at_gr ?_ | refine at_drn ?_ | refine at_dr ?_ | assumption)))).mono (by simp)) hap (own_below HBR5.out (show Below W5.heap.size W5 _ by (repeat (first | exact Below.refl _ _ | refine bg_al ?_ | refine bg_gr ?_ | refine bg_drn ?_ | refine bg_dr ?_ | assumption)))) (by decide)); have HC9 := Lib.hid (ap_chg (own_below HBR5.out (show Below W5.heap.size W5 _ by (repeat (first | exact Below.refl _ _ | refine bg_al ?_ | refine bg_gr ?_ | refine bg_drn ?_ | refine bg_dr ?_ | assumption)))) hap (show Below W5.heap.size W5 _ by (repeat (first | exact Below.refl _ _ | refine bg_al ?_ | refine bg_gr ?_ | refine bg_drn ?_ | refine bg_dr ?_ | assumption)))); clear hap hm9)
          | (go_simp; go_at_call 33; refine (bclone_any _ lk _ (HSB0.out.below (HWR.out.trans (HB5.out.mono HWR.out.size) |>.trans ((show Below W5.heap.size W5 _ by (repeat (first | exact Below.refl _ _ | refine bg_al ?_ | refine bg_gr ?_ | refine bg_drn ?_ | refine bg_dr ?_ | assumption))).mono hw5))) (by have := HL0.out; omega)).mono ?_; rintro en w6 ⟨A3, c3, rfl, ho3, hb3⟩; obtain ⟨D3, rfl⟩ := gr_of_below hb3; clear hb3; have HO3 := Lib.hid ho3; clear ho3))
        all_goals go_wp2_with fail
        all_goals exact ⟨media_round (by first | exact y_step HM9.out HAP.out HO9.out HC9.out HBR5.out | exact y_drew (y_step HM9.out HAP.out HO9.out HC9.out HBR5.out)) H1.out HQK.out HLK.out HVL.out HVS.out HBR.out HMR.out HB5.out HCR.out hw45 hww4, by simp [intOf]; omega⟩
      · obtain rfl : k = kl.length := by omega
        have h1' : ¬ (kl.length : Int) < (kl.length : Int) := by omega
        have hzr : wr.heap[w.heap.size]? = some (.cells Zc 54 (0, 0)) := by
          rw [HCR.out.block _ hz4 (by have := HM.out; have := HZ0.out; omega)]
          have h2 := HBX.out.size
          have h4 := HZ0.out
          rw [HB4.out.block _ (by omega), HBX.out.block _ (by omega)]
          exact HZC.out
        have HZR := Lib.hid hzr
        clear hzr
        go_wp2_with (first
          | (refine wpList_load_mid rfl 54 (.tmp 3) rfl _ _ (by rfl) (medL f.slots f.room (.slice bA kl.length bc) (.slice A2 log.length c2) L) _ (range_blk HMR.out 0 _ (fun j v hj => by simpa using hj)) Try.underlying54 rfl (by rw [medL_len hrl]; exact medInfo) ?_)
          | (refine wl_store_row rfl 54 _ _ rfl w.heap.size _ _ (by rfl) (by rfl) HZR.out (by rw [List.size_toArray, medL_len hrl]; exact medInfo) (by rw [HZS.out, List.size_toArray, medL_len hrl]) (medL_one hL1) ?_))
        refine bodyPost_ret (results_cell1 Try.results22 rfl (loadVar_blk (setRow_heap _ _ _ _ _ _ HZR.out) Try.underlying54 rfl (by rw [List.size_toArray, medL_len hrl]; exact medInfo))) rfl ?_
        have e1 : kl.take kl.length = kl := List.take_length
        have hb := HBR.out
        rw [e1] at hb
        have hcw : Chg (fun j => j = w.heap.size) wr (wr.setRow w.heap.size (medL f.slots f.room (.slice bA kl.length bc) (.slice A2 log.length c2) L).toArray) := setRow_chg (S := fun j => j = w.heap.size) (Chg.refl _ _) (Or.inl rfl) _
        have hnz : ∀ k, isBytes wr k → ¬ k = w.heap.size := by
          rintro k ⟨cs, fr, hk⟩ rfl
          rw [HZR.out] at hk
          injection hk with hk
          injection hk with _ hk
          exact absurd hk (by decide)
        have hnb : ∀ k c fr, wr.heap[k]? = some (.cells c 101 fr) → ¬ k = w.heap.size := by
          rintro k c fr hk rfl
          rw [HZR.out] at hk
          injection hk with hk
          injection hk with _ hk
          exact absurd hk (by decide)
        have hownb : ∀ {v : Value} {l : Bs}, OwnB wr w.heap.size v l → OwnB (wr.setRow w.heap.size (medL f.slots f.room (.slice bA kl.length bc) (.slice A2 log.length c2) L).toArray) w.heap.size v l := fun ho => own_chg ho hcw (fun k hk => by
          obtain ⟨c, fr, hh⟩ := own_heap ho hk
          exact hnz k ⟨c, fr, hh⟩)
        have hol : OwnB wr w.heap.size (.slice A2 log.length c2) log := by
          have h1 := HOL.out
          have h2 : OwnB w4 W0.heap.size (.slice A2 log.length c2) log := own_below h1 HB4.out
          refine own_mono (own_chg h2 HCR.out (fun k hk e => ?_)) (by have := HZ0.out; omega)
          obtain ⟨c, fr, hh⟩ := own_heap h2 hk
          rw [e, (HB4.out.block _ hMlt).trans HMED.out] at hh
          injection hh with hh
          injection hh with _ hh
          exact absurd hh (by decide)
        refine ⟨bA, bc, A2, c2, kl, by rw [← HLQ.out, medL_is], HP4.out, fun ql hq => ?_, vals, own_mono (own_chg hb hcw (fun k hk => by obtain ⟨c, fr, hh⟩ := own_heap hb hk; exact hnb k c fr hh)) (by omega), HVL.out, fun i hi hi' => ?_, hownb hol, ?_⟩
        · have h1 : (⟨ql, hq⟩ : H32) ∈ kl ↔ (mB ⟨ql, hq⟩).isSome = true := HM4.out ⟨ql, hq⟩
          rw [h1, (HDB.out ⟨ql, hq⟩).none]
        · obtain ⟨l, h1, h2⟩ := HVS.out i hi' hi
          exact ⟨l, h1, hownb h2⟩
        · exact ((HBW.out.trans (HB4.out.mono HBW.out.size)).trans (HCR.out.bel (fun j hj => by have := HM.out; have := HZ0.out; omega) (by have h1 := HBW.out.size; have h2 := HB4.out.size; omega))).trans (hcw.bel (fun j hj => by omega) (by have h1 := HBW.out.size; have h2 := HB4.out.size; have h3 := HCR.out.size; omega))
end Go.Proofs.Ytcbglojjbgenlaa
