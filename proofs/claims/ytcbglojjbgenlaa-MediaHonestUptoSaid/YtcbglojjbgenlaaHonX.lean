/- Load of what a device keeps. -/
import Derived.Test.YtcbglojjbgenlaaHnG
import Derived.Test.YtcbglojjbgenlaaHnL
namespace Go.Proofs.Ytcbglojjbgenlaa
open Go.RowKit Go.MapL Go.ChangeMaps Go.MapKept
set_option linter.unusedSimpArgs false
set_option linter.unusedVariables false
attribute [local go_sem] size_gr cell_gr frozen_gr setCell_gr gr_drew gr_drewN lt_k lt_kc le_k le_kc sub_kc nil29 nil28 nil49 mkmap size_setBlock cell_setB st_blob blobC_32 blobC_32g slice_key
attribute [local go_sem ↓] Go.wp_at_zero Go.wp_at_succ
attribute [local go_sem high] hash_eql hash_neq

open Classical in
/-- the first i of the keys -/
noncomputable def blI (bl : H32 → Option Bs) (kl : List H32) (i : Nat) : H32 → Option Bs := fun q => if q ∈ kl.take i then bl q else none
noncomputable def dI (s r : Int) (bl : H32 → Option Bs) (kl : List H32) (i : Nat) : Dv := { dv0 s r [] with blobs := blI bl kl i, n := i, vers := fun q => (blI bl kl i q).toList }
theorem blI_zero (bl : H32 → Option Bs) (kl : List H32) : blI bl kl 0 = fun _ => none := by funext q; simp [blI]
theorem dI_zero (s r : Int) (bl : H32 → Option Bs) (kl : List H32) : dI s r bl kl 0 = dv0 s r [] := by
  unfold dI
  rw [blI_zero]
  rfl
theorem blI_all {bl : H32 → Option Bs} {kl : List H32} (h : ∀ q, q ∉ kl → bl q = none) : blI bl kl kl.length = bl := by
  funext q
  unfold blI
  rw [List.take_length]
  split
  · rfl
  · next hq => exact (h q hq).symm
theorem blI_step {bl : H32 → Option Bs} {kl : List H32} (i : Nat) (hi : i < kl.length) {l : Bs} (h : bl kl[i] = some l) : updO (blI bl kl i) kl[i] (some l) = blI bl kl (i + 1) := by
  funext q
  unfold updO blI
  rw [List.take_succ_eq_append_getElem hi]
  by_cases e : q = kl[i]
  · subst e
    rw [if_pos rfl, if_pos (List.mem_append.2 (Or.inr (by simp))), h]
  · rw [if_neg e]
    by_cases hm : q ∈ kl.take i
    · rw [if_pos hm, if_pos (List.mem_append.2 (Or.inl hm))]
    · rw [if_neg hm, if_neg (fun h => (List.mem_append.1 h).elim hm (fun h => e (by simpa using h)))]
theorem blI_none {bl : H32 → Option Bs} {kl : List H32} (hnd : kl.Nodup) (i : Nat) (hi : i < kl.length) : blI bl kl i kl[i] = none := by
  unfold blI
  rw [if_neg]
  intro hm
  obtain ⟨j, hj, e⟩ := List.mem_take_iff_getElem.1 hm
  have := nodup_inj hnd (by omega) hi e
  omega
theorem dI_step (s r : Int) {bl : H32 → Option Bs} {kl : List H32} (i : Nat) (hi : i < kl.length) {l : Bs} (h : bl kl[i] = some l) : { dI s r bl kl i with blobs := updO (dI s r bl kl i).blobs kl[i] (some l), n := i + 1, vers := updL (dI s r bl kl i).vers kl[i] [l] } = dI s r bl kl (i + 1) := by
  have e := blI_step i hi h
  have e2 : updL (fun q => (blI bl kl i q).toList) kl[i] [l] = fun q => (blI bl kl (i + 1) q).toList := by
    funext q
    rw [← e]
    unfold updL updO
    split <;> rfl
  show ({ dv0 s r [] with blobs := updO (blI bl kl i) kl[i] (some l), n := i + 1, vers := updL (fun q => (blI bl kl i q).toList) kl[i] [l] } : Dv) = _
  rw [e, e2]
  rfl
theorem cmp_lt {kl : List H32} (h : kl.Pairwise (fun x y => cmpH x y < 0)) (i : Nat) (hi : i + 1 < kl.length) : Go.Lib.compareBytes kl[i].1 kl[i + 1].1 < 0 := (List.pairwise_iff_getElem.1 h) i (i + 1) (by omega) hi (by omega)
theorem sorted_nodup {kl : List H32} (h : kl.Pairwise (fun x y => cmpH x y < 0)) : kl.Nodup := by
  refine h.imp ?_
  rintro a b hab rfl
  have := cb_neg a.1 a.1
  unfold cmpH at hab
  omega

/-- what a device is made of, in a world that has grown -/
theorem Core.grow {w w' : World} {D : Nat} {F F' : Nat → Prop} {d : Dv} {m : Mm} (hI : Core w D F (fun k => k = m.B ∨ k = m.V) d m) (hb : Below w.heap.size w w') (hFF : ∀ k, F k → F' k) : Core w' D F' (fun k => k = m.B ∨ k = m.V) d m := by
  have hc : Chg (fun _ => False) w w' := Below.chg _ hb
  obtain ⟨vals, g1, g2, g3, g4⟩ := hI.past
  exact ⟨dev_bel hI.dev hb, hFF _ hI.fD, hFF _ hI.fB, hFF _ hI.fV, hI.xB, hI.xV, hI.bv, hI.blobs.chg hc (fun h => h) (fun _ _ h => h) hFF, hI.vers.chg hc (fun h => h) (fun _ _ _ _ h => h) (fun _ _ h => h) hFF,
    (hI.log.chg hc (fun _ _ h => h)).mono hFF, hI.cho.chg hc (fun _ _ _ _ h => h) hFF, ⟨own_below hI.acc.1 hb, fun k hk => hFF _ (hI.acc.2 k hk)⟩, ⟨vals, g1, own_below g2 hb, fun i hi hi' => (g3 i hi hi').chg hc (fun _ _ _ _ h => h.elim) (fun _ _ h => h) hFF, fun k hk => hFF _ (g4 k hk)⟩⟩
theorem dev_set38 {w : World} {D : Nat} {f : Fd} (h : DevAt w D f) (v : Value) : DevAt (w.setCell ⟨D, 38, none⟩ v) D { f with cho := v } := by
  unfold DevAt
  rw [setCell_row h]
  congr 2
  apply Array.ext'
  rw [Array.toList_setIfInBounds]
  have e : ∀ (u : Value), devC { f with cho := u } = ([.int .i64 f.slots, .int .i64 f.room, f.bm, f.log, .int .i64 f.cnt] ++ (f.tag.1.map bv ++ [.bool f.down])) ++ u :: [f.acc, f.vers, f.past, f.nb, f.nl] := fun u => by simp [devC]
  rw [show devC f = devC { f with cho := f.cho } from rfl, e f.cho, e v]
  show List.set _ 38 v = _
  rw [List.set_append_right _ _ (by simp [f.tag.2])]
  simp [f.tag.2]
theorem keepChg {W0 W : World} {N g : Nat} {cs : List Value} (hr : W0.rangeAt g 0 cs) (hg : g ≠ N) (hc : Chg (fun j => j = N) W0 W) : (∀ (b o : Nat), b < W0.heap.size → b ≠ N → W.cell? ⟨b, o, none⟩ = W0.cell? ⟨b, o, none⟩) ∧ W.rangeAt g 0 cs :=
  ⟨fun b o hb hne => World.cell?_of_block (hc.block b hb hne), range_chg hr hc hg⟩
/-- one blob more in the device that is loaded -/
theorem load_round {w wr W8 : World} {D : Nat} {s r : Int} {bl : H32 → Option Bs} {kl : List H32} {k : Nat} {m : Mm} {q : H32} {l : Bs} {v : Value} {mB mV : H32 → Option Value} {nV nV' : Nat} {ob2 : Obj} (hI : Core wr D (fun j => w.heap.size ≤ j ∧ j < wr.heap.size) (fun j => j = m.B ∨ j = m.V) (dI s r bl kl k) m)
    (hc8 : Chg (fun j => j = m.B) wr W8) (hB8 : MapIs HC W8 m.B (putV mB q v) (k + 1)) (ho : OwnB W8 wr.heap.size v l) (hrB : ∀ q, OptR (DB wr (fun j => w.heap.size ≤ j ∧ j < wr.heap.size)) (mB q) ((dI s r bl kl k).blobs q))
    (h1 : ∀ q, (mV q = none ∧ (dI s r bl kl k).vers q = []) ∨ ∃ v, mV q = some v ∧ VerV wr (fun j => w.heap.size ≤ j ∧ j < wr.heap.size) v ((dI s r bl kl k).vers q)) (h2 : ∀ q q' v v' k, q ≠ q' → mV q = some v → mV q' = some v' → v.ownBlock = some k → v'.ownBlock ≠ some k) (hmV : MapIs HC wr m.V mV nV)
    (hV3 : MapIs HC (setBlock (W8.alloc (.cells #[v] 29)).drew m.V ob2) m.V (putV mV q (.slice (some ⟨W8.heap.size, 0, none⟩) 1 1)) nV') (hww : w.heap.size ≤ wr.heap.size) (h8 : wr.heap.size ≤ W8.heap.size) (hk : k < kl.length) (hq : kl[k] = q) (hl : bl q = some l) :
    Core (setBlock (W8.alloc (.cells #[v] 29)).drew m.V ob2) D (fun j => w.heap.size ≤ j ∧ j < (setBlock (W8.alloc (.cells #[v] 29)).drew m.V ob2).heap.size) (fun j => j = m.B ∨ j = m.V) (dI s r bl kl (k + 1)) m := by
  subst hq
  obtain ⟨mB0, hmB0, _⟩ := id hI.blobs
  obtain ⟨esB, clkB, hhB⟩ := map_heap hmB0
  obtain ⟨esV, clkV, hhV⟩ := map_heap hmV
  have hBlt : m.B < wr.heap.size := (Array.getElem?_eq_some_iff.1 hhB).1
  have hVlt : m.V < wr.heap.size := (Array.getElem?_eq_some_iff.1 hhV).1
  have hcv : Chg (fun j => j = m.V) W8 (setBlock (W8.alloc (.cells #[v] 29)).drew m.V ob2) := chg_setB (S := fun j => j = m.V) (Below.chg _ (show Below W8.heap.size W8 _ by (repeat (first | exact Below.refl _ _ | refine bg_al ?_ | refine bg_gr ?_ | refine bg_drn ?_ | refine bg_dr ?_ | assumption)))) rfl ob2
  have hc : Chg (fun j => j = m.B ∨ j = m.V) wr (setBlock (W8.alloc (.cells #[v] 29)).drew m.V ob2) := (hc8.mono (fun j _ e => Or.inl e)).trans (hcv.mono (fun j _ e => Or.inr e))
  have hsz : (setBlock (W8.alloc (.cells #[v] 29)).drew m.V ob2).heap.size = W8.heap.size + 1 := by simp [size_setBlock]
  have hov : OwnB (setBlock (W8.alloc (.cells #[v] 29)).drew m.V ob2) wr.heap.size v l := own_chg ho hcv (fun j hj e => by
    have := own_ge ho j hj
    omega)
  have hB' : MapIs HC (setBlock (W8.alloc (.cells #[v] 29)).drew m.V ob2) m.B (putV mB kl[k] v) (k + 1) := map_chg hB8 hcv hI.bv
  have hdb : DB (setBlock (W8.alloc (.cells #[v] 29)).drew m.V ob2) (fun j => w.heap.size ≤ j ∧ j < (setBlock (W8.alloc (.cells #[v] 29)).drew m.V ob2).heap.size) v l := DB.own hov (fun j h1 h2 => ⟨by omega, h2⟩)
  have hrow : (setBlock (W8.alloc (.cells #[v] 29)).drew m.V ob2).ownsRow W8.heap.size 29 1 (.slice (some ⟨W8.heap.size, 0, none⟩) 1 1) 1 [v] := by
    refine own_chg (S := fun j => j = m.V) (own_drew0 (own_lit W8 #[v] 29 (size := 1) (base := W8.heap.size) (n := 1) (Nat.le_refl _) (by simp [maxLen]) (by rfl))) (chg_setB (S := fun j => j = m.V) (Chg.refl _ _) rfl ob2) (fun j hj e => ?_)
    simp [Value.ownBlock] at hj
    omega
  have hver : VerV (setBlock (W8.alloc (.cells #[v] 29)).drew m.V ob2) (fun j => w.heap.size ≤ j ∧ j < (setBlock (W8.alloc (.cells #[v] 29)).drew m.V ob2).heap.size) (.slice (some ⟨W8.heap.size, 0, none⟩) 1 1) [l] := by
    refine ⟨[v], own_mono hrow (Nat.zero_le _), fun i hi hi' => ?_, fun j hj => ?_⟩
    · have : i = 0 := by simp at hi; omega
      subst this
      exact hdb
    · simp [Value.ownBlock] at hj
      subst hj
      exact ⟨by omega, by omega⟩
  have h3 := load_step hI hc (F' := fun j => w.heap.size ≤ j ∧ j < (setBlock (W8.alloc (.cells #[v] 29)).drew m.V ob2).heap.size) (fun j hj => ⟨hj.1, by omega⟩) (q := kl[k]) (l := l) hrB hB' hdb h1 h2 hV3 hver (fun j hj => by simp [Value.ownBlock] at hj; omega)
  rw [dI_step s r k hk hl] at h3
  exact h3
theorem toList_le {α : Type} (x : Option α) : x.toList.length ≤ 1 := by cases x <;> simp
/-- the device that was loaded -/
theorem load_fin {w wr w' : World} {D : Nat} {s r c : Int} {t : H32} {bl : H32 → Option Bs} {kl : List H32} {m : Mm} {log : Bs} {lv cv : Value} (hI : Core wr D (fun j => w.heap.size ≤ j ∧ j < wr.heap.size) (fun j => j = m.B ∨ j = m.V) (dI s r bl kl kl.length) m) (hc : Chg (fun j => j = D) wr w')
    (hdev : DevAt w' D (fdOf { dI s r bl kl kl.length with log := log, cnt := c, tag := t } { m with lv := lv, cv := cv })) (hw : w.heap.size ≤ wr.heap.size) (hlv : OwnB w' wr.heap.size lv log) (hcv : w'.ownsRow wr.heap.size 27 3 cv 0 []) (hno : ∀ q, q ∉ kl → bl q = none) (hlg : log.length ≤ 1048576) :
    Plain w' D (fun j => w.heap.size ≤ j ∧ j < w'.heap.size) ⟨s, r, bl, kl.length, log, c, t⟩ 1 := by
  obtain ⟨mB0, hmB0, _⟩ := id hI.blobs
  obtain ⟨mV0, nV0, hmV0, _⟩ := id hI.vers
  obtain ⟨es0, clk0, hh0⟩ := map_heap hmB0
  obtain ⟨es1, clk1, hh1⟩ := map_heap hmV0
  have hD0 := hI.dev
  unfold DevAt at hD0
  have hn : ∀ k c t fr, wr.heap[k]? = some (.cells c t fr) → t ≠ 84 → ¬ k = D := by
    rintro k c t fr hk ht rfl
    rw [hk] at hD0
    injection hD0 with hD0
    injection hD0 with _ hD0
    exact ht hD0
  have hm : ∀ k es clk, wr.heap[k]? = some (.map es clk) → ¬ k = D := by
    rintro k es clk hk rfl
    rw [hk] at hD0
    cases hD0
  have hb : ∀ k, isBytes wr k → ¬ k = D := fun k ⟨cs, fr, hk⟩ => hn k _ _ _ hk (by decide)
  have hs := hc.size
  have hFF : ∀ k, (w.heap.size ≤ k ∧ k < wr.heap.size) → (w.heap.size ≤ k ∧ k < w'.heap.size) := fun k h => ⟨h.1, by omega⟩
  obtain ⟨vals, g1, g2, g3, g4⟩ := hI.past
  have hr : ∀ {e : TypeId} {size : Nat} {v : Value} {n : Nat} {xs : List Value}, wr.ownsRow 0 e size v n xs → e ≠ 84 → w'.ownsRow 0 e size v n xs := fun hv he => own_chg hv hc (fun k hk => by
    obtain ⟨_, _, hh⟩ := own_heap hv hk
    exact hn k _ _ _ hh he)
  refine ⟨{ dI s r bl kl kl.length with log := log, cnt := c, tag := t }, ⟨⟨{ m with lv := lv, cv := cv }, ⟨hdev, hFF _ hI.fD, hFF _ hI.fB, hFF _ hI.fV, hI.xB, hI.xV, hI.bv, hI.blobs.chg hc (hm _ _ _ hh0) hb hFF, hI.vers.chg hc (hm _ _ _ hh1) (fun k c fr hk => hn k _ _ _ hk (by decide)) hb hFF, DB.own hlv (fun k h1 h2 => ⟨by omega, h2⟩), ⟨SC.own (cs := []) hcv, fun k hk => ?_⟩, ⟨hr hI.acc.1 (by decide), fun k hk => hFF _ (hI.acc.2 k hk)⟩, ⟨vals, g1, hr g2 (by decide), fun i hi hi' => (g3 i hi hi').chg hc (fun k es clk hk hS => absurd hS (hm k es clk hk)) hb hFF, fun k hk => hFF _ (g4 k hk)⟩⟩⟩, fun k hk => hk.2, rfl, ⟨by simp [dI, dv0], by simp [dI, dv0], fun q => ?_⟩, hlg⟩, rfl, ?_, ⟨by simp [dI, dv0], by simp [dI, dv0], fun q => toList_le _⟩⟩
  · obtain ⟨h1, h2, h3⟩ := own_vBlock hcv k hk
    exact ⟨⟨by omega, h2⟩, h3⟩
  · have := toList_le (blI bl kl kl.length q)
    show (blI bl kl kl.length q).toList.length ≤ 1099511627776
    omega
  · show (⟨s, r, blI bl kl kl.length, kl.length, log, c, t⟩ : Hn) = _
    rw [blI_all hno]
set_option maxRecDepth 8000 in
theorem zhash_eql (w : World) : (binOp .eql 33 (.agg (zero32.1.map bv).toArray) (.agg #[Value.int .u8 0, Value.int .u8 0, Value.int .u8 0, Value.int .u8 0, Value.int .u8 0, Value.int .u8 0, Value.int .u8 0, Value.int .u8 0, Value.int .u8 0, Value.int .u8 0, Value.int .u8 0, Value.int .u8 0, Value.int .u8 0, Value.int .u8 0, Value.int .u8 0, Value.int .u8 0, Value.int .u8 0, Value.int .u8 0, Value.int .u8 0, Value.int .u8 0, Value.int .u8 0, Value.int .u8 0, Value.int .u8 0, Value.int .u8 0, Value.int .u8 0, Value.int .u8 0, Value.int .u8 0, Value.int .u8 0, Value.int .u8 0, Value.int .u8 0, Value.int .u8 0, Value.int .u8 0])).run Try.prog w = .ok (.bool true) w := by
  have h := hash_eql zero32 zero32 w
  rw [decide_eq_true rfl] at h
  exact h
attribute [local go_sem high] zhash_eql
set_option maxHeartbeats 4000000 in
set_option maxRecDepth 8000 in
theorem load_ok (s r : Int) (bA : Option Addr) (bc : Nat) (base : Nat) (kl : List H32) (vals : List Value) (datas : List Bs) (bl : H32 → Option Bs) (lA : Option Addr) (lc : Nat) (log : Bs) (c : Int) (t : H32) (w : World)
    (hs : 1 ≤ s ∧ s ≤ 4096 ∧ 0 ≤ r ∧ r ≤ 1048576) (hB : BlobsAt w base (.slice bA kl.length bc) kl vals) (hvl : vals.length = kl.length) (hsb : ∀ i (h : i < vals.length) (h' : i < datas.length), SB w vals[i] datas[i]) (hkd : KD bl kl.length kl datas)
    (hsort : kl.Pairwise (fun x y => cmpH x y < 0)) (hkl : (kl.length : Int) ≤ s) (hlog : SB w (.slice lA log.length lc) log) (hll : (log.length : Int) ≤ r) (hc : 0 ≤ c ∧ c ≤ 1099511627776 ∧ (0 < c ∨ t = zero32)) :
    Calls Try.prog 25 #[.agg (medC s r (.slice bA kl.length bc) (.slice lA log.length lc) c t).toArray, .slice none 0 0] w fun e w' => ∃ D F, e = .returned (.tuple #[.pointer (some ⟨D, 0, none⟩), .int .i64 0]) ∧ Below w.heap.size w w' ∧ (∀ k, F k → w.heap.size ≤ k) ∧ Plain w' D F ⟨s, r, bl, kl.length, log, c, t⟩ 1 := by
  have HNEW := Lib.hid (fun W => new_ok s r (.slice none 0 0) [] W hs (SC.nil _ _) (by simp) rfl)
  have HMB := Lib.hid (show ∀ W, Calls Try.prog 30 #[.slice none 0 0] W (fun e w' => e = .returned (.bool true) ∧ Below W.heap.size W w') from fun W => mayBe_any (.slice none 0 0) [] W (SC.nil _ _) (by simp))
  have HBL := Lib.hid hB
  have HVL := Lib.hid hvl
  have HSB := Lib.hid hsb
  have HKD := Lib.hid hkd
  have HSO := Lib.hid hsort
  have HLG := Lib.hid hlog
  have hkl' : ¬ s < (kl.length : Int) := by omega
  have hll' : ¬ r < (log.length : Int) := by omega
  have hc0 : 0 ≤ c := hc.1
  have hc1 : c ≤ 1099511627776 := hc.2.1
  have hm0 : (medC s r (.slice bA kl.length bc) (.slice lA log.length lc) c t)[0]? = some (.int .i64 s) := rfl
  have hm1 : (medC s r (.slice bA kl.length bc) (.slice lA log.length lc) c t)[1]? = some (.int .i64 r) := rfl
  have hm2 : (medC s r (.slice bA kl.length bc) (.slice lA log.length lc) c t)[2]? = some (.slice bA kl.length bc) := rfl
  have hm3 : (medC s r (.slice bA kl.length bc) (.slice lA log.length lc) c t)[3]? = some (.slice lA log.length lc) := rfl
  have hm4 : (medC s r (.slice bA kl.length bc) (.slice lA log.length lc) c t)[4]? = some (.int .i64 c) := rfl
  have hct := hc.2.2
  have hn4 : kl.length ≤ 4096 := by omega
  have hlg : log.length ≤ 1048576 := by omega
  have HS := Lib.hid hs
  clear hB hvl hsb hkd hsort hlog hs
  go_enter Try.func25, Try.ntmps25
  go_upto_region 4 with (first
      | (go_at_call 6; refine (HNEW.out _).mono ?_; rintro en w1 ⟨D, rfl, hb1, hI⟩; obtain ⟨D1, rfl⟩ := gr_of_below hb1; have HI := Lib.hid hI; clear hb1 hI))
  go_cut [8] (fun s8 wx => s8 = .bool true ∧ wx = (w.alloc (.cells (medC s r (.slice bA kl.length bc) (.slice lA log.length lc) c t).toArray 54)).gr D1)
  case first =>
    by_cases hpos : 0 < c
    · go_wp2_with fail
      go_meet
      exact ⟨rfl, rfl⟩
    · have hc2 : c = 0 := by omega
      have ht : t = zero32 := hct.resolve_left hpos
      subst hc2 ht
      have htag : ((w.alloc (.cells (medC s r (.slice bA kl.length bc) (.slice lA log.length lc) 0 zero32).toArray 54)).gr D1).rangeAt w.heap.size 5 (zero32.1.map bv) := by
        refine range_bel (range_blk (heap_alloc_last _ _) 5 _ (fun j v hj => ?_)) (below_gr _ D1)
        rw [List.getElem?_toArray, medC, List.getElem?_append_right (by simp), ← hj]
        congr 1
        simp
      have HT := Lib.hid htag
      clear htag
      go_wp2_with (first
        | (refine wl_load_w (by rfl) 33 _ rfl _ _ (by rfl) (zero32.1.map bv) _ HT.out Try.underlying33 rfl (hash_info zero32) ?_))
      go_meet
      exact ⟨rfl, rfl⟩
  case rest =>
    obtain ⟨rfl, rfl⟩ := hcut
    go_wp2_with (first
      | (go_at_call 30; refine (HMB.out _).mono ?_; rintro en w2 ⟨rfl, hb2⟩; obtain ⟨D2, rfl⟩ := gr_of_below hb2; clear hb2))
    obtain ⟨m, hI0⟩ := HI.out
    have hCore0 := hI0
    rw [← dI_zero s r bl kl] at hCore0
    have HC0 := Lib.hid hCore0
    have hbm : ((w.alloc (.cells (medC s r (.slice bA kl.length bc) (.slice lA log.length lc) c t).toArray 54)).gr D1).heap[w.heap.size]? = some (.cells (medC s r (.slice bA kl.length bc) (.slice lA log.length lc) c t).toArray 54 (0, 0)) := by
      rw [(below_gr _ D1).block _ (by simp), heap_alloc_last]
    have HBM := Lib.hid hbm
    clear hI0 hCore0 hbm
    go_loopw [72] (fun i wr => ∃ k : Nat, k ≤ kl.length ∧ i = .int .i64 k ∧ Core wr D (fun j => w.heap.size ≤ j ∧ j < wr.heap.size) (fun j => j = m.B ∨ j = m.V) (dI s r bl kl k) m ∧ Below (w.alloc (.cells (medC s r (.slice bA kl.length bc) (.slice lA log.length lc) c t).toArray 54)).heap.size (w.alloc (.cells (medC s r (.slice bA kl.length bc) (.slice lA log.length lc) c t).toArray 54)) wr) (fun i _ => kl.length - (intOf i).toNat)
    case atStart =>
      refine ⟨0, by omega, rfl, HC0.out.grow (by (repeat (first | exact Below.refl _ _ | refine bg_al ?_ | refine bg_gr ?_ | refine bg_drn ?_ | refine bg_dr ?_ | assumption))) (fun j hj => ⟨by have := hj.1; simp at this; omega, by have := hj.2; simp [size_gr] at this ⊢; omega⟩), by (repeat (first | exact Below.refl _ _ | refine bg_al ?_ | refine bg_gr ?_ | refine bg_drn ?_ | refine bg_dr ?_ | assumption))⟩
    case round =>
      obtain ⟨k, hk, rfl, hcore, hbw⟩ := hrel
      have HCO := Lib.hid hcore
      have HBW := Lib.hid hbw
      have hbox : wr.heap[w.heap.size]? = some (.cells (medC s r (.slice bA kl.length bc) (.slice lA log.length lc) c t).toArray 54 (0, 0)) := (hbw.block _ (by simp)).trans (heap_alloc_last _ _)
      have HBX := Lib.hid hbox
      have x2 : wr.cell? ⟨w.heap.size, 2, none⟩ = some (.slice bA kl.length bc) := by rw [cell_of_row _ _ _ _ _ _ hbox]; rfl
      have x3 : wr.cell? ⟨w.heap.size, 3, none⟩ = some (.slice lA log.length lc) := by rw [cell_of_row _ _ _ _ _ _ hbox]; rfl
      have xlt : w.heap.size < wr.heap.size := World.block_lt_of_cell? _ _ x2
      obtain ⟨d0, d1, d2, d3, d4, -, d38, -, d40, d41, -, -⟩ := dev_c hcore.dev
      have hDl : D < wr.heap.size := World.block_lt_of_cell? _ _ d0
      have df3 := dev_fr hcore.dev 3
      have df38 := dev_fr hcore.dev 38
      have hww : Below w.heap.size w wr := (show Below w.heap.size w _ by (repeat (first | exact Below.refl _ _ | refine bg_al ?_ | refine bg_gr ?_ | refine bg_drn ?_ | refine bg_dr ?_ | assumption))).trans (hbw.mono (by simp))
      have HWW := Lib.hid hww
      clear hcore hbw hbox hww
      by_cases h1 : k < kl.length
      · have h1' : (k : Int) < (kl.length : Int) := by omega
        obtain ⟨g, cap, e1, -⟩ := own_form HBL.out (by omega)
        injection e1 with e1 _ e3
        subst e1 e3
        have hvk : k < vals.length := by have := HVL.out; omega
        have hdk : k < datas.length := by have := HKD.out.len; omega
        obtain ⟨qk, hqk⟩ : ∃ q, kl[k] = q := ⟨kl[k], rfl⟩
        obtain ⟨lk, hlk⟩ : ∃ l, datas[k] = l := ⟨datas[k], rfl⟩
        have hsk := HSB.out k hvk hdk
        rw [hlk] at hsk
        obtain ⟨vA, vc, hvv, -⟩ := id hsk
        have hlen : lk.length ≤ 1024 := hlk ▸ HKD.out.small _ (List.getElem_mem hdk)
        have hblk : bl qk = some lk := by rw [← hqk, ← hlk]; exact HKD.out.at_ k h1 hdk
        have hrng : w.rangeAt g (k * 33) (blobC qk (.slice vA lk.length vc)) := by rw [← hqk, ← hvv]; exact blobs_range HBL.out HVL.out k h1 hvk
        rw [hvv] at hsk
        have HSK := Lib.hid hsk
        have HBK := Lib.hid hblk
        have HRNG := Lib.hid hrng
        have HQK := Lib.hid hqk
        have H1 := Lib.hid h1
        have hlen2 : ¬ (1024 : Int) < (lk.length : Int) := by omega
        have hql : (blobC qk (.slice vA lk.length vc)).length = 33 := blobC_len _ _
        clear hsk hblk hrng hqk hlk hvv
        go_upto_region 10 with (first
          | (refine wpList_load_mid rfl 101 _ rfl _ _ (by rfl) (blobC qk (.slice vA lk.length vc)) _ (range_bel HRNG.out HWW.out) Try.underlying101 rfl (by rw [blobC_len]; exact blobInfo) ?_))
        go_cut [97] (fun s97 wx => s97 = .bool false ∧ ∃ n, wx = (wr.alloc (.cells (blobC qk (.slice vA lk.length vc)).toArray 101)).drewN n)
        case first =>
          rcases Nat.eq_zero_or_pos k with h0 | h0
          · subst h0
            have h0d : decide ((0 : Int) < ((0 : Nat) : Int)) = false := by simp
            go_quiet (fail)
            go_wp2_with fail
            go_meet
            exact ⟨rfl, _, rfl⟩
          · obtain ⟨k', rfl⟩ : ∃ k', k = k' + 1 := ⟨k - 1, by omega⟩
            obtain ⟨qp, hqp⟩ : ∃ q, kl[k']'(by omega) = q := ⟨kl[k']'(by omega), rfl⟩
            have hcmp : Go.Lib.compareBytes qp.1 qk.1 < 0 := by
              have := cmp_lt HSO.out k' H1.out
              rw [hqp, HQK.out] at this
              exact this
            have hkp : w.rangeAt g (k' * 33) (qp.1.map bv) := by
              have := blobs_range HBL.out HVL.out k' (by omega) (by omega)
              rw [hqp] at this
              exact blob_key this
            have HKP := Lib.hid hkp
            have hcn : ¬ 0 ≤ Go.Lib.compareBytes qp.1 qk.1 := by omega
            have hcd : decide (0 ≤ Go.Lib.compareBytes qp.1 qk.1) = false := by simpa using hcmp
            have hw1 : IntKind.i64.wrap (((k' + 1 : Nat) : Int) - 1) = (k' : Int) := by
              rw [show ((k' + 1 : Nat) : Int) - 1 = (k' : Int) by omega]
              exact IntWalk.i64_in _ (by omega)
            have h0p : (0 : Int) < ((k' + 1 : Nat) : Int) := by omega
            have h0d : decide ((0 : Int) < ((k' + 1 : Nat) : Int)) = true := by simp
            have hm0 : (0 : Int) ≤ (k' : Int) := by omega
            have hm1 : (k' : Int) < (kl.length : Int) := by omega
            have HNK := Lib.hid (show (wr.alloc (.cells (blobC qk (.slice vA lk.length vc)).toArray 101)).rangeAt wr.heap.size 0 (qk.1.map bv) from blob_key (range_blk (heap_alloc_last _ _) 0 _ (fun j v hj => by simpa using hj)))
            clear hqp hcmp hkp
            go_quiet (first
              | (go_at_call 39; refine Calls.quiet_of (bcmp_any _ _ qp.1 qk.1 _ (sb_key (range_bel HKP.out (HWW.out.trans ((show Below wr.heap.size wr _ by (repeat (first | exact Below.refl _ _ | refine bg_al ?_ | refine bg_gr ?_ | refine bg_drn ?_ | refine bg_dr ?_ | assumption))).mono HWW.out.size)))) (sb_key (range_bel HNK.out (by (repeat (first | exact Below.refl _ _ | refine bg_al ?_ | refine bg_gr ?_ | refine bg_drn ?_ | refine bg_dr ?_ | assumption))))))))
            go_wp2_with fail
            go_meet
            exact ⟨rfl, _, rfl⟩
        case rest =>
        obtain ⟨rfl, n6, rfl⟩ := hcut
        go_upto_region 13 with (first
          | (go_at_call 33; refine (bclone_any _ lk _ (HSK.out.below (HWW.out.trans ((show Below wr.heap.size wr _ by (repeat (first | exact Below.refl _ _ | refine bg_al ?_ | refine bg_gr ?_ | refine bg_drn ?_ | refine bg_dr ?_ | assumption))).mono HWW.out.size))) (by omega)).mono ?_; rintro en w7 ⟨A7, c7, rfl, ho7, hb7⟩; obtain ⟨D7, rfl⟩ := gr_of_below hb7; clear hb7; have HO7 := Lib.hid ho7; clear ho7))
        refine with_world (fun W7 hW7 => ?_)
        have hb7 : Below wr.heap.size wr W7 := by rw [hW7]; (repeat (first | exact Below.refl _ _ | refine bg_al ?_ | refine bg_gr ?_ | refine bg_drn ?_ | refine bg_dr ?_ | assumption))
        have hr7 : W7.rangeAt wr.heap.size 0 (qk.1.map bv) := by
          rw [hW7]
          exact range_bel (blob_key (range_blk (heap_alloc_last _ _) 0 _ (fun j v hj => by simpa using hj))) (below_gr _ D7)
        have ho7 : OwnB W7 wr.heap.size (.slice A7 lk.length c7) lk := by rw [hW7]; exact ((ownB_at HO7.out) _ (by (repeat (first | (refine at_base ?_; simp only [World.size_alloc, size_gr, World.size_setCell, World.size_drew]; done) | (refine at_base ?_; rfl) | refine at_al ?_ | refine at_gr ?_ | refine at_drn ?_ | refine at_dr ?_ | assumption)))).mono (by simp)
        have hz7 : wr.heap.size < W7.heap.size := by rw [hW7]; simp [size_gr]; omega
        obtain ⟨mB, hmB, hrB⟩ := HCO.out.blobs
        obtain ⟨mV, nV, hmV, hV1, hV2⟩ := HCO.out.vers
        obtain ⟨esB, clkB, hhB⟩ := map_heap hmB
        obtain ⟨esV, clkV, hhV⟩ := map_heap hmV
        have hBlt : m.B < wr.heap.size := (Array.getElem?_eq_some_iff.1 hhB).1
        have hVlt : m.V < wr.heap.size := (Array.getElem?_eq_some_iff.1 hhV).1
        have hDB : D ≠ m.B := fun e => (map_ne_cells hmB HCO.out.dev) e.symm
        have hDV : D ≠ m.V := fun e => (map_ne_cells hmV HCO.out.dev) e.symm
        have hmq : mB qk = none := opt_none (hrB qk) (by rw [← HQK.out]; exact blI_none HKD.out.nd k H1.out)
        obtain ⟨ob, hrun, hB3⟩ := (map_bel hmB (hb7.drew)).put Try.underlying76 qk (.slice A7 lk.length c7)
        have hrun' : (Instr.mapUpdate 76 (.map (some m.B)) (.agg (qk.1.map bv).toArray) (.slice A7 lk.length c7)).run Try.prog W7.drew = .ok () (setBlock W7.drew m.B ob) := hrun
        have k2 : W7.cell? ⟨D, 2, none⟩ = some (.map (some m.B)) := by rw [hb7.cell (p := ⟨D, 2, none⟩) hDl]; exact d2
        have hD7 : D < W7.heap.size := by omega
        have HB7 := Lib.hid hb7
        have HR7 := Lib.hid hr7
        have HO7' := Lib.hid ho7
        have HZ7 := Lib.hid hz7
        have HMB := Lib.hid hmB
        have HRB := Lib.hid hrB
        have HMV := Lib.hid hmV
        have HV1 := Lib.hid hV1
        have HV2 := Lib.hid hV2
        have HB3 := Lib.hid hB3
        have HMQ := Lib.hid hmq
        have HNB := Lib.hid (show wr.heap.size ≠ m.B by omega)
        have HNV := Lib.hid (show wr.heap.size ≠ m.V by omega)
        have hqu := Try.underlying33
        have hqq := q_len qk
        have hqi := hash_info qk
        clear hW7 hb7 hr7 ho7 hmB hrB hmV hV1 hV2 hB3 hrun hmq hhB hhV
        go_region_held3 (fun W => (∀ (b o : Nat), b < W7.heap.size → b ≠ m.B → W.cell? ⟨b, o, none⟩ = W7.cell? ⟨b, o, none⟩) ∧ W.rangeAt wr.heap.size 0 (qk.1.map bv))
          (first | exact keepChg HR7.out HNB.out (chg_setB (S := fun j => j = m.B) (Below.chg _ (by (repeat (first | exact Below.refl _ _ | refine bg_al ?_ | refine bg_gr ?_ | refine bg_drn ?_ | refine bg_dr ?_ | assumption)))) rfl _) | exact keepChg HR7.out HNB.out (Below.chg _ (by (repeat (first | exact Below.refl _ _ | refine bg_al ?_ | refine bg_gr ?_ | refine bg_drn ?_ | refine bg_dr ?_ | assumption))))) (fail)
        go_wp2_with fail
        refine with_world (fun W8 hW8 => ?_)
        have hc8 : Chg (fun j => j = m.B) wr W8 := by rw [hW8]; exact chg_setB (S := fun j => j = m.B) (Below.chg _ (HB7.out.drew)) rfl ob
        have hr8 : W8.rangeAt wr.heap.size 0 (qk.1.map bv) := by rw [hW8]; exact (keepChg HR7.out HNB.out (chg_setB (S := fun j => j = m.B) (Below.chg _ (Below.drew (Below.refl _ _))) rfl ob)).2
        have hz8 : W8.heap.size = W7.heap.size := by rw [hW8]; simp [size_setBlock]
        have hb8 : MapIs HC W8 m.B (putV mB qk (.slice A7 lk.length c7)) (k + 1) := by
          rw [hW8]
          have := HB3.out
          rw [HMQ.out] at this
          exact this
        have ho8 : OwnB W8 wr.heap.size (.slice A7 lk.length c7) lk := by
          rw [hW8]
          refine own_chg HO7'.out (chg_setB (S := fun j => j = m.B) (Below.chg _ (Below.drew (Below.refl _ _))) rfl ob) (fun j hj e => ?_)
          have := own_ge HO7'.out j hj
          omega
        have hD8 : D < W8.heap.size := by omega
        have k40 : W8.cell? ⟨D, 40, none⟩ = some (.map (some m.V)) := by rw [World.cell?_of_block (hc8.block D hDl hDB)]; exact d40
        obtain ⟨ob2, hrun2, hV3⟩ := (map_bel (map_chg HMV.out hc8 (fun e => HCO.out.bv e.symm)) (show Below W8.heap.size W8 (W8.alloc (.cells #[.slice A7 lk.length c7] 29)).drew by (repeat (first | exact Below.refl _ _ | refine bg_al ?_ | refine bg_gr ?_ | refine bg_drn ?_ | refine bg_dr ?_ | assumption)))).put Try.underlying78 qk (.slice (some ⟨W8.heap.size, 0, none⟩) 1 1)
        have hrun3 : (Instr.mapUpdate 78 (.map (some m.V)) (.agg (qk.1.map bv).toArray) (.slice (some ⟨W8.heap.size, 0, none⟩) 1 1)).run Try.prog (W8.alloc (.cells #[.slice A7 lk.length c7] 29)).drew = .ok () (setBlock (W8.alloc (.cells #[.slice A7 lk.length c7] 29)).drew m.V ob2) := hrun2
        have hrun4 : (Instr.mapUpdate 78 (.map (some m.V)) (.agg (qk.1.map bv).toArray) (.slice (some ⟨W8.heap.size, 0, none⟩) 1 1)).run Try.prog (W8.drew.alloc (.cells #[.slice A7 lk.length c7] 29)) = .ok () (setBlock (W8.alloc (.cells #[.slice A7 lk.length c7] 29)).drew m.V ob2) := hrun2
        have HC8 := Lib.hid hc8
        have HR8 := Lib.hid hr8
        have HB8 := Lib.hid hb8
        have HO8 := Lib.hid ho8
        have HV3 := Lib.hid hV3
        have HZ8 := Lib.hid hz8
        clear hW8 hc8 hr8 hb8 ho8 hV3 hrun2 hrun' k2 hz8
        go_region_held3 (fun W => (∀ (b o : Nat), b < W8.heap.size → b ≠ m.V → W.cell? ⟨b, o, none⟩ = W8.cell? ⟨b, o, none⟩) ∧ W.rangeAt wr.heap.size 0 (qk.1.map bv))
          (first | exact keepChg HR8.out HNV.out (chg_setB (S := fun j => j = m.V) (Below.chg _ (by (repeat (first | exact Below.refl _ _ | refine bg_al ?_ | refine bg_gr ?_ | refine bg_drn ?_ | refine bg_dr ?_ | assumption)))) rfl _) | exact keepChg HR8.out HNV.out (Below.chg _ (by (repeat (first | exact Below.refl _ _ | refine bg_al ?_ | refine bg_gr ?_ | refine bg_drn ?_ | refine bg_dr ?_ | assumption))))) (fail)
        go_wp2_with fail
        refine ⟨⟨k + 1, by omega, by go_num, load_round HCO.out HC8.out HB8.out HO8.out HRB.out HV1.out HV2.out HMV.out HV3.out (by omega) (by have := HZ8.out; omega) H1.out (by rw [HQK.out]) HBK.out, ?_⟩, by simp [intOf]; omega⟩
        refine HBW.out.trans (((HC8.out.mono (fun j _ e => Or.inl e)).trans (chg_setB (S := fun j => j = m.B ∨ j = m.V) (Below.chg _ (show Below W8.heap.size W8 (W8.alloc (.cells #[.slice A7 lk.length c7] 29)).drew by (repeat (first | exact Below.refl _ _ | refine bg_al ?_ | refine bg_gr ?_ | refine bg_drn ?_ | refine bg_dr ?_ | assumption)))) (Or.inr rfl) ob2)).bel (fun j hj => ?_) HBW.out.size)
        have h1 := HCO.out.fB
        have h2 := HCO.out.fV
        have hne : ∀ (B n : Nat) (mv : H32 → Option Value), MapIs HC wr B mv n → B ≠ w.heap.size := fun B n mv h e => by
          obtain ⟨es, clk, hh⟩ := map_heap h
          have := HBX.out
          rw [e, this] at hh
          injection hh with hh
          cases hh
        obtain ⟨mB', hmB', -⟩ := HCO.out.blobs
        obtain ⟨mV', nV', hmV', -⟩ := HCO.out.vers
        have h3 := hne _ _ _ hmB'
        have h4 := hne _ _ _ hmV'
        rw [World.size_alloc]
        rcases hj with rfl | rfl <;> omega
      · obtain rfl : k = kl.length := by omega
        have h1' : ¬ (kl.length : Int) < (kl.length : Int) := by omega
        go_upto_region 17 with (first
          | (go_at_call 33; refine (bclone_any _ log _ (HLG.out.below (HWW.out.trans ((show Below wr.heap.size wr _ by (repeat (first | exact Below.refl _ _ | refine bg_al ?_ | refine bg_gr ?_ | refine bg_drn ?_ | refine bg_dr ?_ | assumption))).mono HWW.out.size))) (by omega)).mono ?_; rintro en w2 ⟨A2, c2, rfl, ho2, hb2⟩; obtain ⟨D2, rfl⟩ := gr_of_below hb2; clear hb2; have HO2 := Lib.hid ho2; clear ho2))
        refine with_world (fun W1 hW1 => ?_)
        have hC1 : Chg (fun j => j = D) wr W1 := by rw [hW1]; exact (chg_set (S := fun j => j = D) (Chg.refl _ _) rfl _).trans (Below.chg _ (by (repeat (first | exact Below.refl _ _ | refine bg_al ?_ | refine bg_gr ?_ | refine bg_drn ?_ | refine bg_dr ?_ | assumption))))
        have hdv : DevAt W1 D { fdOf (dI s r bl kl kl.length) m with log := .slice A2 log.length c2 } := by rw [hW1]; exact dev_bel (dev_set3 HCO.out.dev _) (by (repeat (first | exact Below.refl _ _ | refine bg_al ?_ | refine bg_gr ?_ | refine bg_drn ?_ | refine bg_dr ?_ | assumption)))
        have ho1 : OwnB W1 wr.heap.size (.slice A2 log.length c2) log := by rw [hW1]; exact (ownB_at HO2.out) _ (by (repeat (first | (refine at_base ?_; simp only [World.size_alloc, size_gr, World.size_setCell, World.size_drew]; done) | (refine at_base ?_; rfl) | refine at_al ?_ | refine at_gr ?_ | refine at_drn ?_ | refine at_dr ?_ | assumption)))
        have hbx1 : W1.heap[w.heap.size]? = some (.cells (medC s r (.slice bA kl.length bc) (.slice lA log.length lc) c t).toArray 54 (0, 0)) := (hC1.block _ xlt (fun e => by
          have h1 := HBX.out
          have h2 := HCO.out.dev
          unfold DevAt at h2
          rw [e, h2] at h1
          injection h1 with h1
          injection h1 with _ h1
          exact absurd h1 (by decide))).trans HBX.out
        have HC1 := Lib.hid hC1
        have HDV := Lib.hid hdv
        have HO1 := Lib.hid ho1
        have HBX1 := Lib.hid hbx1
        have hst := st_regD hdv c t
        have hrl := reg_len c t
        have hDl1 : D < W1.heap.size := by have := hC1.size; omega
        have xlt1 : w.heap.size < W1.heap.size := by have := hC1.size; omega
        clear hW1 hC1 hdv ho1 hbx1
        go_upto_region 18 with (first
          | (refine wpList_load_mid rfl 39 _ rfl _ _ (by rfl) (regC c t) _ (range_blk HBX1.out 4 _ (fun j v hj => med_tail _ _ _ _ _ _ j v hj)) Try.underlying39 rfl (by rw [reg_len]; exact regInfo) ?_))
        refine with_world (fun W3 hW3 => ?_)
        have hC3 : Chg (fun j => j = D) wr W3 := by rw [hW3]; exact setRow_chg (S := fun j => j = D) HC1.out (Or.inl rfl) _
        have hdv3 : DevAt W3 D { fdOf (dI s r bl kl kl.length) m with log := .slice A2 log.length c2, cnt := c, tag := t } := by rw [hW3]; exact setRow_heap _ _ _ _ _ _ HDV.out
        have ho3 : OwnB W3 wr.heap.size (.slice A2 log.length c2) log := by
          rw [hW3]
          refine own_chg HO1.out (setRow_chg (S := fun j => j = D) (Chg.refl _ _) (Or.inl rfl) _) (fun j hj e => ?_)
          have := own_ge HO1.out j hj
          omega
        have HC3 := Lib.hid hC3
        have HDV3 := Lib.hid hdv3
        have HO3 := Lib.hid ho3
        obtain ⟨-, -, -, -, -, -, e38, -⟩ := dev_c hdv3
        have ef38 := dev_fr hdv3 38
        have hDl3 : D < W3.heap.size := World.block_lt_of_cell? _ _ e38
        clear hW3 hC3 hdv3 ho3 hst
        go_wp2_with (first
          | (go_at_call 31; refine (cclone_any (.slice none 0 0) 0 [] _ (SC.nil _ 3).src (by simp) (by omega) (fun _ _ => rfl)).mono ?_; rintro en w4 ⟨A4, c4, rfl, ho4, hb4⟩; obtain ⟨D4, rfl⟩ := gr_of_below hb4; clear hb4; have HO4 := Lib.hid ho4; clear ho4))
        go_ret2
        refine ⟨D, _, rfl, ?_, fun k hk => hk.1, load_fin (lv := .slice A2 log.length c2) (cv := .slice A4 0 c4) HCO.out (HC3.out.trans ((chg_set (S := fun j => j = D) (Chg.refl _ _) rfl _).trans (Below.chg _ (by (repeat (first | exact Below.refl _ _ | refine bg_al ?_ | refine bg_gr ?_ | refine bg_drn ?_ | refine bg_dr ?_ | assumption)))))) (dev_bel (dev_set38 HDV3.out (.slice A4 0 c4)) (by (repeat (first | exact Below.refl _ _ | refine bg_al ?_ | refine bg_gr ?_ | refine bg_drn ?_ | refine bg_dr ?_ | assumption)))) HWW.out.size ?_ ?_ HKD.out.no hlg⟩
        · exact HWW.out.trans (((HC3.out.trans ((chg_set (S := fun j => j = D) (Chg.refl _ _) rfl _).trans (Below.chg _ (by (repeat (first | exact Below.refl _ _ | refine bg_al ?_ | refine bg_gr ?_ | refine bg_drn ?_ | refine bg_dr ?_ | assumption))))))).bel (fun j hj => by subst hj; exact HCO.out.fD.1) HWW.out.size)
        · refine own_below ?_ (show Below (W3.setCell ⟨D, 38, none⟩ (.slice A4 0 c4)).heap.size (W3.setCell ⟨D, 38, none⟩ (.slice A4 0 c4)) _ by (repeat (first | exact Below.refl _ _ | refine bg_al ?_ | refine bg_gr ?_ | refine bg_drn ?_ | refine bg_dr ?_ | assumption)))
          refine own_chg HO3.out (chg_set (S := fun j => j = D) (Chg.refl _ _) rfl _) (fun j hj e => ?_)
          have := own_ge HO3.out j hj
          omega
        · exact own_mono (own_at HO4.out (by (repeat (first | (refine at_base ?_; simp only [World.size_alloc, size_gr, World.size_setCell, World.size_drew]; done) | (refine at_base ?_; rfl) | refine at_al ?_ | refine at_gr ?_ | refine at_drn ?_ | refine at_dr ?_ | assumption)))) (by have := HC3.out.size; simp; omega)
end Go.Proofs.Ytcbglojjbgenlaa
