/- cairnlaw05.gather: all strings of an item; cairnlaw05.room. -/
import Derived.Test.YtdhkhdeblkbojaaGrowC
import Derived.Test.YtdhkhdeblkbojaaRefNum
set_option linter.unusedSimpArgs false
namespace Go.Proofs.Ytdhkhdeblkbojaa
open Go.RowKit
attribute [local go_sem ↓] Go.wp_at_zero Go.wp_at_succ
attribute [local go_sem] size_gr cell_gr frozen_gr setCell_gr gr_drew gr_drewN lt_k lt_kc le_k le_kc sub_kc

theorem sv_wt {w : World} {T : Nat → Prop} {v0 v1 v2 : Value} {x : It} {sv : List Value} (h : RdI w T v0 v1 v2 x sv) : sv.length ≤ wtI x := by
  induction h with
  | mk l v1 bs A c E h1 h1' h2 h3 h4 h4' h5 h6 ih =>
    have : ∀ (L : List Ent), (∀ e ∈ L, e.sv.length ≤ wtI e.x) → (L.flatMap (·.sv)).length ≤ wtL (L.map (·.x)) := by
      intro L
      induction L with
      | nil => intro _; simp
      | cons e r ihr =>
        intro hl
        have h1 := hl e (by simp)
        have h2 := ihr (fun e' he' => hl e' (List.mem_cons_of_mem _ he'))
        simp only [List.flatMap_cons, List.length_append, List.map_cons, wtL]
        omega
    have := this E ih
    simp only [List.length_cons, wtI]
    omega

theorem tot_wt : ∀ (E : List Ent) (_ : ∀ e ∈ E, e.sv.length ≤ wtI e.x) (i : Nat) (hi : i < E.length), ((E.take i).flatMap (·.sv)).length + wtI E[i].x ≤ wtL (E.map (·.x))
  | [], _, i, hi => by simp at hi
  | e :: r, h, 0, _ => by simp [wtL]
  | e :: r, h, i + 1, hi => by
    have h1 := h e (by simp)
    have h2 := tot_wt r (fun e' he' => h e' (List.mem_cons_of_mem _ he')) i (by simpa using hi)
    simp only [List.take_succ_cons, List.flatMap_cons, List.length_append, List.map_cons, wtL, List.getElem_cons_succ]
    omega

theorem flat_snoc (E : List Ent) {i : Nat} (hi : i < E.length) : (E.take (i + 1)).flatMap (·.sv) = (E.take i).flatMap (·.sv) ++ E[i].sv := by
  rw [← List.take_append_getElem hi, List.flatMap_append]
  simp

theorem Chg.via {S S' : Nat → Prop} {a b c : World} (h : Chg S a b) (k : Chg S' b c) (hs : ∀ i, S' i → S i ∨ a.heap.size ≤ i) : Chg S a c :=
  ⟨k.os.trans h.os, k.tape.trans h.tape, k.output.trans h.output, Nat.le_trans h.size k.size, fun i hi hn => (k.block i (Nat.lt_of_lt_of_le hi h.size) (fun hS => by
    rcases hs i hS with h' | h'
    · exact hn h'
    · omega)).trans (h.block i hi hn)⟩
def GatherPost (W : World) (base : Nat) (V : Value) (l : List Value) (e : Ending) (w' : World) : Prop :=
  ∃ V', e = .returned V' ∧ w'.ownsRow base 22 1 V' l.length l ∧ Chg (fun k => V.ownBlock = some k) W w' ∧ (∀ k, V'.ownBlock = some k → V.ownBlock = some k ∨ W.heap.size ≤ k)

set_option maxRecDepth 100000 in
set_option maxHeartbeats 2000000 in
theorem gather_any {w : World} {T : Nat → Prop} {v0 v1 v2 : Value} {x : It} {sv : List Value} (h : RdI w T v0 v1 v2 x sv) :
    ∀ (W : World) (base : Nat) (V : Value) (vs : List Value), (∀ k, T k → W.heap[k]? = w.heap[k]?) → (∀ k, T k → k < base) → base ≤ W.heap.size → W.ownsRow base 22 1 V vs.length vs → vs.length + wtI x ≤ 1099511627776 →
    Calls Try.prog 60 #[V, .agg #[v0, v1, v2]] W (GatherPost W base V (vs ++ sv)) := by
  induction h with
  | mk l v1 bs A c E h1 h1' h2 h3 h4 h4' h5 h6 ih =>
    intro W base V vs hag hT hbase hrow hn
    obtain ⟨A1, c1, rfl, -⟩ := h1
    have HE := Lib.hid (fun (W' : World) i (hb : ∀ k, T k → W'.heap[k]? = w.heap[k]?) hi => ent_full (h5.agr h4' hb) (fun e he => (h6 e he).agr hb) (i := i) (Below.refl W'.heap.size W') hi)
    have HIh := Lib.hid ih
    have HAg := Lib.hid hag
    have HT := Lib.hid hT
    have HRow := Lib.hid hrow
    have HLt := Lib.hid hrow.lt
    have HFs := Lib.hid (fun i (hi : i < E.length) => flat_snoc E hi)
    unfold maxLen at h3
    have HTot := Lib.hid (tot_wt E (fun e he => sv_wt (h6 e he)))
    have hwt : bs.length + wtL (E.map (·.x)) + 1 ≤ wtI (.mk l bs (E.map (·.x))) := by rw [wtI]; omega
    have hel : E.length ≤ 1099511627776 := by have := len_wt (E.map (·.x)); rw [List.length_map] at this; omega
    have hvl : vs.length + wtL (E.map (·.x)) + 1 ≤ 1099511627776 := by omega
    clear ih h5 h6 h4 h4' h1' hag hT hrow hn hwt
    go_enter Try.func60, Try.ntmps60
    go_wp2_with (at_builtin; (refine wpList_ap (s := .tmp 7) (x := .tmp 10) (v := V) (xv := .slice (some ⟨W.heap.size + 1, 0, none⟩) 1 1) (m := 1) (news := [.slice A1 bs.length c1]) listsT rfl rfl rfl (own_below HRow.out (by (repeat (first | exact Below.refl _ _ | refine bg_al ?_ | refine bg_gr ?_ | refine bg_drn ?_ | refine bg_dr ?_ | assumption)))) rfl (Src.block (cs := #[.slice A1 bs.length c1]) (t := 22) (fr := (0, 0)) (by (repeat (first | (refine blk_new ?_; first | rfl | (simp only [World.size_alloc, size_gr, World.size_setCell, World.size_drew]; done) | (simp only [World.size_alloc, size_gr, World.size_setCell, World.size_drew]; omega) | omega) | refine blk_dr ?_ | refine blk_drn ?_ | refine blk_al (by simp only [World.size_alloc, size_gr, World.size_setCell, World.size_drew]; omega) ?_ | refine blk_gr (by simp only [World.size_alloc, size_gr, World.size_setCell, World.size_drew]; omega) ?_ | assumption))) rfl) (one_single (u := .slice A1 bs.length c1) rfl) (by simp only [maxLen]; omega) (by omega) (by simp only [World.size_alloc]; omega) ?_); intro V1 w1 hap; have hc2 : w1.cell? ⟨W.heap.size, 2, none⟩ = some (.slice A E.length c) := ap_cell (a := ⟨W.heap.size, 2, none⟩) hap (fun g hg => by have := (HLt.out g hg).2; simp only; omega) (cell_of_row _ _ 2 _ _ _ (heap_alloc2_old _ _ _)))
    have HAp := Lib.hid hap
    clear hap
    have hchg1 : Chg (fun k => V.ownBlock = some k) W w1 := (((Chg.refl _ W).alloc _).alloc _).grown HAp.out.2.1 (fun g hg => .inl hg)
    have hV1 : ∀ k, V1.ownBlock = some k → V.ownBlock = some k ∨ W.heap.size ≤ k := fun k hk => by
      rcases HAp.out.2.2 with ⟨h, _⟩ | ⟨h, _⟩
      · exact .inl (h ▸ hk)
      · rw [h] at hk
        injection hk with hk
        simp only [World.size_alloc] at hk
        exact .inr (by omega)
    have HChg1 := Lib.hid hchg1
    have HV1 := Lib.hid hV1
    clear hchg1 hV1
    go_loopw [0, 15] (fun v0 v wr => ∃ (i : Nat) (vs' : List Value), i ≤ E.length ∧ v = .int .i64 i ∧ vs' = vs ++ .slice A1 bs.length c1 :: (E.take i).flatMap (·.sv) ∧ wr.ownsRow base 22 1 v0 vs'.length vs' ∧ Chg (fun k => V.ownBlock = some k) W wr ∧ (∀ k, v0.ownBlock = some k → V.ownBlock = some k ∨ W.heap.size ≤ k)) (fun _ v _ => E.length - (intOf v).toNat)
    case atStart => exact ⟨0, vs ++ [.slice A1 bs.length c1], by omega, rfl, by simp, by simpa using HAp.out.1, HChg1.out, HV1.out⟩
    case round =>
      obtain ⟨i, vs', hi, rfl, hvs, hrow, hchg, hv0⟩ := hrel
      have HVs := Lib.hid hvs
      have HRow2 := Lib.hid hrow
      have HChg := Lib.hid hchg
      have HV0 := Lib.hid hv0
      have hws := hchg.size
      have HAgr := Lib.hid (fun k (hk : T k) => (hchg.block k (by have := HT.out k hk; omega) (fun h => by have := own_ge HRow.out k h; have := HT.out k hk; omega)).trans (HAg.out k hk))
      clear hvs hrow hchg hv0
      by_cases hi1 : i < E.length
      · obtain ⟨b, off, l2, A5, n5, c5, A6, n6, c6, rfl, e0, e1, e2, f0, f1, f2, hbw⟩ := HE.out wr i HAgr.out hi1
        have h1i : (i : Int) < (E.length : Int) := by omega
        have hi0 : (0 : Int) ≤ (i : Int) := by omega
        have hc := HIh.out E[i] (List.getElem_mem _)
        rw [f0, f1, f2] at hc
        have HC := Lib.hid hc
        have hlen : vs'.length + wtI E[i].x ≤ 1099511627776 := by have := HTot.out i hi1; rw [HVs.out]; simp only [List.length_append, List.length_cons]; omega
        clear f0 f1 f2 hc
        go_wp2_with fail
        refine (HC.out _ base _ vs' (fun k hk => (Below.heap_alloc wr _ k (by have := HT.out k hk; omega)).trans (HAgr.out k hk)) HT.out (by simp only [World.size_alloc]; omega) (own_below HRow2.out (by (repeat (first | exact Below.refl _ _ | refine bg_al ?_ | refine bg_gr ?_ | refine bg_drn ?_ | refine bg_dr ?_ | assumption)))) hlen).mono ?_
        rintro en w9 ⟨V', rfl, hrow9, hchg9, hv9⟩
        have HRow9 := Lib.hid hrow9
        have HChg9 := Lib.hid (Chg.via (HChg.out.alloc _) hchg9 HV0.out)
        have HV9 := Lib.hid (fun k hk => (hv9 k hk).elim (HV0.out k) (fun h => .inr (by simp only [World.size_alloc] at h; omega)))
        clear hrow9 hchg9 hv9
        go_wp2_with fail
        exact ⟨⟨i + 1, _, by omega, by go_num, by rw [HVs.out, HFs.out i hi1]; simp, HRow9.out, HChg9.out, HV9.out⟩, by simp [intOf]; omega⟩
      · obtain rfl : i = E.length := by omega
        have h1i : ¬ (E.length : Int) < (E.length : Int) := by omega
        go_wp2_with fail
        go_ret
        have e := HVs.out
        rw [List.take_length] at e
        have hr := HRow2.out
        rw [e] at hr
        exact ⟨_, rfl, hr, HChg.out, HV0.out⟩
end Go.Proofs.Ytdhkhdeblkbojaa
