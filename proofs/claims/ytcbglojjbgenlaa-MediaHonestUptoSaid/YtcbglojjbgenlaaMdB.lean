/- 'm[k] = append(m[k], x)': the map's entry. An honest access: Get, Read. slices.Grow, slices.Concat of two. An honest access: Append. An honest access: Put. -/
import Derived.Test.YtcbglojjbgenlaaMdA
import Derived.Test.YtcbglojjbgenlaaMedG
import Derived.Test.YtcbglojjbgenlaaMapA
import Derived.Lib.AppendZeros
import Derived.Deep.WholeRow
namespace Go.Proofs.Ytcbglojjbgenlaa
open Go.RowKit Go.MapL Go.ChangeMaps Go.MapKept
set_option linter.unusedSimpArgs false
set_option linter.unusedVariables false

theorem find_born {l : List MapEntry} (hn : (l.map (·.born)).Nodup) {j : Nat} {e0 : MapEntry} (h : l[j]? = some e0) : l.findIdx? (fun e => ((e.born : Nat) : Int) == ((e0.born : Nat) : Int)) = some j := by
  induction l generalizing j with
  | nil => simp at h
  | cons a r ih =>
    simp only [List.map_cons, List.nodup_cons] at hn
    cases j with
    | zero =>
      have h' : a = e0 := by simpa using h
      subst h'
      simp [List.findIdx?_cons]
    | succ j =>
      have h' : r[j]? = some e0 := by simpa using h
      have hne : a.born ≠ e0.born := fun e1 => hn.1 (List.mem_map.2 ⟨e0, List.mem_of_getElem? h', e1.symm⟩)
      rw [List.findIdx?_cons, show (((a.born : Nat) : Int) == ((e0.born : Nat) : Int)) = false from by simp; omega]
      simp [ih hn.2 h']
theorem mod_last {α : Type} (f : α → α) (a : α) : ∀ l : List α, (l ++ [a]).modify l.length f = l ++ [f a]
  | [] => rfl
  | b :: r => by simp [List.modify_succ_cons, mod_last f a r]
theorem set_same {α : Type} : ∀ (l : List α) (j : Nat) (a : α), l[j]? = some a → l.set j a = l
  | [], _, _, h => by simp at h
  | b :: r, 0, a, h => by simp at h; subst h; rfl
  | b :: r, j + 1, a, h => by simp at h; simp [set_same r j a h]
theorem idx_arr (xs : Array MapEntry) (p : MapEntry → Bool) : xs.findIdx? p = xs.toList.findIdx? p := by
  cases xs
  simp
theorem map_entry {w : World} {B n : Nat} {m : H32 → Option Value} {t e : TypeId} (h : MapIs HC w B m n) (ht : (Try.prog).underlying t = some (.map 33 e)) {z : Value} (hz : ∀ u : World, (zeroValue e).run Try.prog u = .ok z u) (q : H32) :
    ∃ (st : Nat) (o1 : Obj), (Instr.mapEntry t (.map (some B)) (hv q)).run Try.prog w = .ok (.tuple #[(m q).getD z, .int .i64 st]) (setBlock w B o1) ∧
      ∀ (w2 : World) (val : Value), w2.heap[B]? = some o1 → ∃ o2, (Instr.entryStore t (.map (some B)) (.int .i64 st) val).run Try.prog w2 = .ok () (setBlock w2 B o2) ∧ MapIs HC (setBlock w2 B o2) B (putV m q val) (if (m q).isSome then n else n + 1) := by
  obtain ⟨l, hl⟩ := hash_key q
  have hput := fun val => h.put ht q val
  obtain ⟨es, clk, hb, hs, hn, hk, hm, hc⟩ := h.search q
  obtain ⟨s1, s2, s3⟩ := (stamped_iff es clk).1 hs
  rcases hc with ⟨e1, h1, h2⟩ | ⟨j, e0, e1, h1, h2, h3⟩
  · refine ⟨clk, .map (es.push ⟨hv q, z, clk⟩) (clk + 1), ?_, fun w2 val hw2 => ⟨.map (es.push ⟨hv q, val, clk⟩) (clk + 1), ?_, ?_⟩⟩
    · rw [e1]
      have h1' : (Instr.findKey 33 (hv q) es.toList).run Try.prog w = .ok none w := h1
      simp [Instr.mapEntry, run_underlying ht, MapKept.run_getObj_map hb, hashLaw.check w false hl, h1', hz, MapKept.run_setObj_map _ hb, Result.andThen, setBlock, goInt]
    · have hidx : (es.push ⟨hv q, z, clk⟩).findIdx? (fun e => ((e.born : Nat) : Int) == ((clk : Nat) : Int)) = some es.size := by
        rw [idx_arr]
        exact find_born (l := (es.push ⟨hv q, z, clk⟩).toList) (j := es.size) (e0 := ⟨hv q, z, clk⟩) (by
          simp only [Array.toList_push, List.map_append, List.map_cons, List.map_nil]
          refine List.nodup_append.2 ⟨s2, by simp, fun a ha c hc e1 => ?_⟩
          simp only [List.mem_singleton] at hc
          obtain ⟨x, hx, rfl⟩ := List.mem_map.1 ha
          have := s1 x hx
          omega) (by simp)
      have hmod : (es.push ⟨hv q, z, clk⟩).modify es.size (fun e => { e with val := val }) = es.push ⟨hv q, val, clk⟩ := by
        apply Array.ext'
        rw [Array.toList_modify, Array.toList_push, Array.toList_push, ← Array.length_toList, mod_last]
      simp [Instr.entryStore, MapKept.run_getObj_map hw2, asInt, asIntOf, hidx, hmod, MapKept.run_setObj_map _ hw2, Result.andThen, setBlock]
    · obtain ⟨o, hrun, hmap⟩ := hput val
      have h1' : (Instr.findKey 33 (hv q) es.toList).run Try.prog w = .ok none w := h1
      have hrun2 : (Instr.mapUpdate t (.map (some B)) (hv q) val).run Try.prog w = .ok () (setBlock w B (.map (es.push ⟨hv q, val, clk⟩) (clk + 1))) := by
        simp [Instr.mapUpdate, run_underlying ht, MapKept.run_getObj_map hb, hashLaw.check w false hl, h1', MapKept.run_setObj_map _ hb, Result.andThen, setBlock]
      have hsame : setBlock w B o = setBlock w B (.map (es.push ⟨hv q, val, clk⟩) (clk + 1)) := by
        have := hrun.symm.trans hrun2
        injection this
      refine hmap.of_cell ?_
      rw [hsame, heap_setBlock_same hb, heap_setBlock_same hw2]
  · have hj : es[j]? = some e0 := by simpa using h2
    have h3' : e0.key = hv q := h3
    have hsame : es.modify j (fun e => { e with key := hv q }) = es := by
      apply Array.ext'
      rw [Array.toList_modify, modify_eq_set _ _ _ _ h2]
      have : ({ e0 with key := hv q } : MapEntry) = e0 := by rw [← h3']
      rw [this]
      exact set_same _ _ _ h2
    have h1' : (Instr.findKey 33 (hv q) es.toList).run Try.prog w = .ok (some (j, e0.val)) w := h1
    refine ⟨e0.born, .map es clk, ?_, fun w2 val hw2 => ⟨.map (es.modify j (fun e' => { e' with key := hv q, val := val })) clk, ?_, ?_⟩⟩
    · rw [e1]
      simp [Instr.mapEntry, run_underlying ht, MapKept.run_getObj_map hb, hashLaw.check w false hl, h1', hj, h3', hashLaw.stays w hl, hsame, MapKept.run_setObj_map _ hb, Result.andThen, setBlock, goInt]
    · have hidx : es.findIdx? (fun e => ((e.born : Nat) : Int) == ((e0.born : Nat) : Int)) = some j := by
        rw [idx_arr]
        exact find_born s2 h2
      have hmod : es.modify j (fun e => { e with val := val }) = es.modify j (fun e' => { e' with key := hv q, val := val }) := by
        apply Array.ext'
        rw [Array.toList_modify, Array.toList_modify, modify_eq_set _ _ _ _ h2, modify_eq_set _ _ _ _ h2, ← h3']
      simp [Instr.entryStore, MapKept.run_getObj_map hw2, asInt, asIntOf, hidx, hmod, MapKept.run_setObj_map _ hw2, Result.andThen, setBlock]
    · obtain ⟨o, hrun, hmap⟩ := hput val
      have hrun2 : (Instr.mapUpdate t (.map (some B)) (hv q) val).run Try.prog w = .ok () (setBlock w B (.map (es.modify j (fun e' => { e' with key := hv q, val := val })) clk)) := by
        simp [Instr.mapUpdate, run_underlying ht, MapKept.run_getObj_map hb, hashLaw.check w false hl, h1', hj, h3', hashLaw.stays w hl, MapKept.run_setObj_map _ hb, Result.andThen, setBlock]
      have hsame2 : setBlock w B o = setBlock w B (.map (es.modify j (fun e' => { e' with key := hv q, val := val })) clk) := by
        have := hrun.symm.trans hrun2
        injection this
      refine hmap.of_cell ?_
      rw [hsame2, heap_setBlock_same hb, heap_setBlock_same hw2]
end Go.Proofs.Ytcbglojjbgenlaa
namespace Go.Proofs.Ytcbglojjbgenlaa
open Go.RowKit Go.MapL Go.ChangeMaps Go.MapKept
set_option linter.unusedSimpArgs false
set_option linter.unusedVariables false
attribute [local go_sem] size_gr cell_gr frozen_gr setCell_gr gr_drew gr_drewN lt_k lt_kc le_k le_kc sub_kc nil29 nil28 nil49 mkmap size_setBlock cell_setB
attribute [local go_sem ↓] Go.wp_at_zero Go.wp_at_succ

theorem deed_fr {w : World} {A : Nat} {kind : Int} {q : H32} {da ks : Value} {n cnt : Int} {tag : H32} (h : DeedAt w A kind q da ks n cnt tag) (i : Nat) : w.frozen? ⟨A, i, none⟩ = false := frozen_of_row _ _ _ _ _ h
theorem setCell_row {w : World} {g i : Nat} {c : Array Value} {t : TypeId} {fr : Nat × Nat} (h : w.heap[g]? = some (.cells c t fr)) (v : Value) : (w.setCell ⟨g, i, none⟩ v).heap[g]? = some (.cells (c.setIfInBounds i v) t fr) := by
  rw [setCell_eq_setRow w g i c t fr v h]
  exact setRow_heap w g c _ t fr h
theorem deed_set33 {w : World} {A : Nat} {kind : Int} {q : H32} {da ks : Value} {n cnt : Int} {tag : H32} (h : DeedAt w A kind q da ks n cnt tag) (v : Value) : DeedAt (w.setCell ⟨A, 33, none⟩ v) A kind q v ks n cnt tag := by
  unfold DeedAt
  rw [setCell_row h]
  congr 2
  apply Array.ext'
  rw [Array.toList_setIfInBounds]
  have e : ∀ (u : Value), deedC kind q u ks n cnt tag = ([.int .i64 kind] ++ q.1.map bv) ++ u :: ([ks, .int .i64 n, .int .i64 cnt] ++ tag.1.map bv) := fun u => by simp [deedC]
  rw [e da, e v]
  show List.set _ 33 v = _
  rw [List.set_append_right _ _ (by simp [q.2])]
  simp [q.2]
theorem deed_set34 {w : World} {A : Nat} {kind : Int} {q : H32} {da ks : Value} {n cnt : Int} {tag : H32} (h : DeedAt w A kind q da ks n cnt tag) (v : Value) : DeedAt (w.setCell ⟨A, 34, none⟩ v) A kind q da v n cnt tag := by
  unfold DeedAt
  rw [setCell_row h]
  congr 2
  apply Array.ext'
  rw [Array.toList_setIfInBounds]
  have e : ∀ (u : Value), deedC kind q da u n cnt tag = ([.int .i64 kind] ++ q.1.map bv ++ [da]) ++ u :: ([.int .i64 n, .int .i64 cnt] ++ tag.1.map bv) := fun u => by simp [deedC]
  rw [e ks, e v]
  show List.set _ 34 v = _
  rw [List.set_append_right _ _ (by simp [q.2])]
  simp [q.2]
theorem heap_set_ne (w : World) {A B i : Nat} (v : Value) (h : B ≠ A) : (w.setCell ⟨A, i, none⟩ v).heap[B]? = w.heap[B]? := Below.heap_setCell _ _ _ _ h
theorem chg_set {S : Nat → Prop} {a w : World} (h : Chg S a w) {g i : Nat} (hg : S g) (v : Value) : Chg S a (w.setCell ⟨g, i, none⟩ v) := h.setCell (p := ⟨g, i, none⟩) hg v
theorem deed_bel {w w' : World} {A : Nat} {kind : Int} {q : H32} {da ks : Value} {n cnt : Int} {tag : H32} (h : DeedAt w A kind q da ks n cnt tag) (hb : Below w.heap.size w w') : DeedAt w' A kind q da ks n cnt tag := (hb.block _ (Array.getElem?_eq_some_iff.1 h).1).trans h
theorem deed_chg {S : Nat → Prop} {w w' : World} {A : Nat} {kind : Int} {q : H32} {da ks : Value} {n cnt : Int} {tag : H32} (h : DeedAt w A kind q da ks n cnt tag) (hb : Chg S w w') (hs : ¬ S A) : DeedAt w' A kind q da ks n cnt tag := (hb.block _ (Array.getElem?_eq_some_iff.1 h).1 hs).trans h
theorem dev_bel {w w' : World} {D : Nat} {f : Fd} (h : DevAt w D f) (hb : Below w.heap.size w w') : DevAt w' D f := (hb.block _ (Array.getElem?_eq_some_iff.1 h).1).trans h
theorem dev_chg {S : Nat → Prop} {w w' : World} {D : Nat} {f : Fd} (h : DevAt w D f) (hb : Chg S w w') (hs : ¬ S D) : DevAt w' D f := (hb.block _ (Array.getElem?_eq_some_iff.1 h).1 hs).trans h
theorem dev_ne_deed {w : World} {D A : Nat} {f : Fd} {kind : Int} {q : H32} {da ks : Value} {n cnt : Int} {tag : H32} (hD : DevAt w D f) (h : DeedAt w A kind q da ks n cnt tag) : D ≠ A := by
  rintro rfl
  unfold DevAt at hD
  unfold DeedAt at h
  rw [hD] at h
  injection h with h
  injection h with _ h
  exact absurd h (by decide)
theorem map_ne_cells {w : World} {B A n : Nat} {m : H32 → Option Value} {c : Array Value} {t : TypeId} {fr : Nat × Nat} (hB : MapIs HC w B m n) (h : w.heap[A]? = some (.cells c t fr)) : B ≠ A := by
  rintro rfl
  obtain ⟨es, clk, hb, _⟩ := hB
  rw [hb] at h
  cases h
theorem lookB1 (w : World) (N n : Nat) (m : H32 → Option Value) (q : H32) (h : MapIs HC w N m n) : (Instr.lookup 76 (.map (some N)) (.agg (q.1.map bv).toArray) false).run Try.prog w = .ok ((m q).getD (.slice none 0 0)) w := h.look Try.underlying76 (zeroB w) q false
/-- what the region of Get's answer may lean on -/
theorem keepG {W0 W : World} {N n A : Nat} {m : H32 → Option Value} {q : H32} {X : Value} (hm : MapIs HC W0 N m n) (hN : N ≠ A) (hr : W0.rangeAt A 1 (q.1.map bv)) (hX : (m q).getD (.slice none 0 0) = X)
    (h : Below W0.heap.size W0 W ∨ ∃ v, W = W0.drew.setCell ⟨A, 33, none⟩ v) :
    (∀ (b o : Nat), b < W0.heap.size → b ≠ A → W.cell? ⟨b, o, none⟩ = W0.cell? ⟨b, o, none⟩) ∧ W.rangeAt A 1 (q.1.map bv) ∧ (Instr.lookup 76 (.map (some N)) (.agg (q.1.map bv).toArray) false).run Try.prog W = .ok X W := by
  rcases h with h | ⟨v, rfl⟩
  · exact ⟨fun b o hb _ => cellB h b o hb, range_bel hr h, hX ▸ lookB1 W N n m q (map_bel hm h)⟩
  · refine ⟨fun b o hb hne => World.cell?_of_block (heap_set_ne _ v hne), fun j u hj => ?_, hX ▸ lookB1 _ N n m q ((map_bel hm (bg_dr (Below.refl _ _))).of_cell (heap_set_ne _ v hN))⟩
    have hj' : j < 32 := by have := (List.getElem?_eq_some_iff.1 hj).1; simpa [q.2] using this
    rw [World.cell?_setCell_other _ (a := ⟨A, 33, none⟩) (b := ⟨A, 1 + j, none⟩) v (fun e => by injection e with _ e _; omega)]
    exact hr j u hj

set_option maxRecDepth 8000 in
theorem does_get (D A B nB : Nat) (f : Fd) (mB : H32 → Option Value) (q : H32) (da ks : Value) (n cnt : Int) (tag : H32) (w : World) (hD : DevAt w D f) (hA : DeedAt w A 1 q da ks n cnt tag) (hfB : f.bm = .map (some B)) (hB : MapIs HC w B mB nB)
    (xA : Option Addr) (xn xc : Nat) (hx : mB q = some (.slice xA xn xc)) :
    Calls Try.prog 62 #[.pointer (some ⟨D, 0, none⟩), .pointer (some ⟨A, 0, none⟩)] w fun e w' => e = .returned (.int .i64 0) ∧ DeedAt w' A 1 q (.slice xA xn xc) ks n cnt tag ∧ Chg (fun k => k = A) w w' := by
  have HR := Lib.hid (refuses_get D A B nB f mB q da ks n cnt tag w hD hA hfB hB _ rfl (by rw [hx]; rfl))
  have HAq := Lib.hid hA
  have HB := Lib.hid hB
  have HX := Lib.hid hx
  have HBA := Lib.hid (map_ne_cells hB hA)
  obtain ⟨hc0, hc1, hc2, hc3, hc4, -⟩ := dev_c hD
  obtain ⟨ha0, ha33, ha34, ha35, ha36, hak, har⟩ := deed_c hA
  have hf33 := deed_fr hA 33
  have hDA := dev_ne_deed hD hA
  rw [hfB] at hc2
  have hDlt : D < w.heap.size := World.block_lt_of_cell? w _ hc2
  have hAlt : A < w.heap.size := World.block_lt_of_cell? w _ ha0
  have HK := Lib.hid hak
  have hql := q_len q
  have hqu := Try.underlying33
  have hqi := hash_info q
  clear hD hA hfB hB hak har hx
  go_enter Try.func62, Try.ntmps62
  go_wp2_with (go_at_call 63; refine HR.out.mono ?_; rintro en w1 ⟨rfl, n1, rfl⟩)
  refine with_world (fun W0 hW0 => ?_)
  have hB0 : Below w.heap.size w W0 := by rw [hW0]; (repeat (first | exact Below.refl _ _ | refine bg_al ?_ | refine bg_gr ?_ | refine bg_drn ?_ | refine bg_dr ?_ | assumption))
  have HB0 := Lib.hid hB0
  have z0 : D < W0.heap.size := by have := hB0.size; omega
  have y0 : A < W0.heap.size := by have := hB0.size; omega
  have k2 : W0.cell? ⟨D, 2, none⟩ = some (.map (some B)) := by rw [hB0.cell (p := ⟨D, 2, none⟩) hDlt]; exact hc2
  have k33 : W0.cell? ⟨A, 33, none⟩ = some da := by rw [hB0.cell (p := ⟨A, 33, none⟩) hAlt]; exact ha33
  have kf33 : W0.frozen? ⟨A, 33, none⟩ = false := by rw [hB0.frozen (p := ⟨A, 33, none⟩) hAlt]; exact hf33
  clear hB0 hW0
  go_region_held3 (fun W => (∀ (b o : Nat), b < W0.heap.size → b ≠ A → W.cell? ⟨b, o, none⟩ = W0.cell? ⟨b, o, none⟩) ∧ W.rangeAt A 1 (q.1.map bv) ∧ (Instr.lookup 76 (.map (some B)) (.agg (q.1.map bv).toArray) false).run Try.prog W = .ok (.slice xA xn xc) W)
    (first | exact keepG (W0 := W0) (map_bel HB.out HB0.out) HBA.out (range_bel HK.out HB0.out) (by rw [HX.out]; rfl) (Or.inr ⟨_, rfl⟩) | exact keepG (W0 := W0) (map_bel HB.out HB0.out) HBA.out (range_bel HK.out HB0.out) (by rw [HX.out]; rfl) (Or.inl (by (repeat (first | exact Below.refl _ _ | refine bg_al ?_ | refine bg_gr ?_ | refine bg_drn ?_ | refine bg_dr ?_ | assumption))))) (fail)
  go_wp2_with fail
  go_ret
  refine ⟨rfl, ?_, ?_⟩
  · exact deed_set33 (deed_bel HAq.out (show Below w.heap.size w W0.drew from HB0.out.drew)) _
  · exact chg_set (S := fun k => k = A) (Below.chg _ (show Below w.heap.size w W0.drew from HB0.out.drew)) rfl _

set_option maxRecDepth 8000 in
theorem does_read (D A B nB : Nat) (f : Fd) (mB : H32 → Option Value) (q : H32) (da ks : Value) (n cnt : Int) (tag : H32) (w : World) (hD : DevAt w D f) (hA : DeedAt w A 5 q da ks n cnt tag) (hfB : f.bm = .map (some B)) (hB : MapIs HC w B mB nB) (lA : Option Addr) (ln lc : Nat) (hlog : f.log = .slice lA ln lc) :
    Calls Try.prog 62 #[.pointer (some ⟨D, 0, none⟩), .pointer (some ⟨A, 0, none⟩)] w fun e w' => e = .returned (.int .i64 0) ∧ DeedAt w' A 5 q (.slice lA ln lc) ks n cnt tag ∧ Chg (fun k => k = A) w w' := by
  have HR := Lib.hid (refuses_read D A B nB f mB q da ks n cnt tag w hD hA hfB hB _ rfl _ rfl)
  have HAq := Lib.hid hA
  obtain ⟨hc0, hc1, hc2, hc3, hc4, -⟩ := dev_c hD
  obtain ⟨ha0, ha33, ha34, ha35, ha36, hak, har⟩ := deed_c hA
  have hf33 := deed_fr hA 33
  have hDA := dev_ne_deed hD hA
  rw [hlog] at hc3
  have hDlt : D < w.heap.size := World.block_lt_of_cell? w _ hc3
  have hAlt : A < w.heap.size := World.block_lt_of_cell? w _ ha0
  clear hD hA hfB hB hak har hlog
  go_enter Try.func62, Try.ntmps62
  go_wp2_with (go_at_call 63; refine HR.out.mono ?_; rintro en w1 ⟨rfl, n1, rfl⟩)
  go_ret
  refine ⟨rfl, ?_, ?_⟩
  · exact deed_set33 (deed_bel HAq.out (by (repeat (first | exact Below.refl _ _ | refine bg_al ?_ | refine bg_gr ?_ | refine bg_drn ?_ | refine bg_dr ?_ | assumption)))) _
  · exact chg_set (S := fun k => k = A) (Below.chg _ (by (repeat (first | exact Below.refl _ _ | refine bg_al ?_ | refine bg_gr ?_ | refine bg_drn ?_ | refine bg_dr ?_ | assumption)))) rfl _
end Go.Proofs.Ytcbglojjbgenlaa
namespace Go.Proofs.Ytcbglojjbgenlaa
open Go.RowKit
set_option linter.unusedSimpArgs false
set_option linter.unusedVariables false
attribute [local go_sem] size_gr cell_gr frozen_gr setCell_gr gr_drew gr_drewN lt_k lt_kc le_k le_kc sub_kc nil29 nil28 nil49
attribute [local go_sem ↓] Go.wp_at_zero Go.wp_at_succ

set_option maxRecDepth 4000 in
theorem grow_nil (n : Nat) (w : World) (hn : n ≤ 1099511627776) :
    Calls Try.prog 82 #[.slice none 0 0, .int .i64 n] w fun e w' => ∃ A c, e = .returned (.slice A 0 c) ∧ OwnB w' w.heap.size (.slice A 0 c) [] ∧ Below w.heap.size w w' := by
  by_cases h0 : n = 0
  · subst h0
    clear hn
    go_enter Try.func82, Try.ntmps82
    go_wp2
    go_ret
    exact ⟨_, _, rfl, OwnB.nil _ _, by (repeat (first | exact Below.refl _ _ | refine bg_al ?_ | refine bg_gr ?_ | refine bg_drn ?_ | refine bg_dr ?_ | assumption))⟩
  · have hpos : (0 : Int) < (n : Int) := by omega
    have hng : ¬ (n : Int) < 0 := by omega
    have hw1 : IntKind.i64.wrap (n : Int) = (n : Int) := IntWalk.i64_in _ (by omega)
    obtain ⟨i, hi, hz, hs, hby⟩ := info_parts bytesT.info
    have HZ := Lib.hid (show (Value.int .u8 0).cells.size = 1 from rfl)
    have hr := Go.Lib.run_append_nil_zeros (P := Try.prog) w 29 3 29 5 i (.int .u8 0) .i64 .i64 Try.underlying29 Try.underlying3 hi hz n (by omega) (by rw [hs]; omega) (by omega) (by rw [hby]; omega)
    have hge := grownCap_ge w n 0 5
    have hcm := grownCap_le_maxLen w n 0 5 (by unfold maxLen; omega)
    have HR := Lib.hid hr
    have HGE := Lib.hid hge
    have HCM := Lib.hid hcm
    have HN := Lib.hid hn
    clear hr hge hcm hn h0 hi hz hs hby
    go_enter Try.func82, Try.ntmps82
    go_wp2_with (at_builtin; refine Go.Lib.wpList_append_run _ rfl _ _ _ _ rfl _ _ rfl rfl _ _ HR.out ?_)
    go_ret
    refine ⟨_, _, rfl, ⟨by simp, .inr ⟨w.heap.size, _, _, rfl, Nat.le_refl _, heap_alloc_last w.drew _, Nat.zero_le _, HCM.out, ?_, by simp⟩⟩, by (repeat (first | exact Below.refl _ _ | refine bg_al ?_ | refine bg_gr ?_ | refine bg_drn ?_ | refine bg_dr ?_ | assumption))⟩
    have := HGE.out
    simp only [Array.size_append, size_zeroCells, List.size_toArray, List.length_cons, List.length_nil]
    omega

theorem own0 {w : World} {base : Nat} {A : Option Addr} {c : Nat} (h : OwnB w base (.slice A 0 c) []) : w.ownsRow base 5 1 (.slice A 0 c) 0 [] := h

set_option maxRecDepth 4000 in
theorem concat_two (G : Nat) (va vb : Value) (la lb : List UInt8) (w : World) (h0 : w.cell? ⟨G, 0, none⟩ = some va) (h1 : w.cell? ⟨G, 1, none⟩ = some vb) (ha : SB w va la) (hb : SB w vb lb) (hn : la.length + lb.length ≤ 1099511627776) :
    Calls Try.prog 76 #[.slice (some ⟨G, 0, none⟩) 2 2] w fun e w' => ∃ A c, e = .returned (.slice A (la.length + lb.length) c) ∧ OwnB w' w.heap.size (.slice A (la.length + lb.length) c) (la ++ lb) ∧ Below w.heap.size w w' := by
  have HA := Lib.hid ha
  have HB := Lib.hid hb
  obtain ⟨Aa, ca, rfl, -⟩ := ha
  obtain ⟨Ab, cb, rfl, -⟩ := hb
  have hG : G < w.heap.size := World.block_lt_of_cell? w _ h0
  have HN := Lib.hid hn
  have hw0 : IntKind.i64.wrap (la.length : Int) = (la.length : Int) := IntWalk.i64_in _ (by omega)
  have hw1 : IntKind.i64.wrap ((la.length : Int) + (lb.length : Int)) = (la.length : Int) + (lb.length : Int) := IntWalk.i64_in _ (by omega)
  have hp0 : ¬ (la.length : Int) < 0 := by omega
  have hp1 : ¬ (la.length : Int) + (lb.length : Int) < 0 := by omega
  clear hn
  go_enter Try.func76, Try.ntmps76
  go_wp2_with fail
  refine wp_loop_rounds 3 ?_
  rw [rounds_succ]
  go_wp2
  rw [rounds_succ]
  go_wp2
  rw [rounds_succ]
  go_wp2_with (go_at_call 82; refine (grow_nil (la.length + lb.length) _ HN.out).mono ?_; rintro en w1 ⟨A1, c1, rfl, ho1, hb1⟩; obtain ⟨D1, rfl⟩ := gr_of_below hb1; clear hb1; have HO1 := Lib.hid ho1; clear ho1)
  refine wp_loop_rounds 3 ?_
  rw [rounds_succ]
  go_wp2_with (at_builtin; refine ap_own [] la la la.length rfl rfl rfl rfl rfl rfl HO1.out rfl (HA.out.below (by (repeat (first | exact Below.refl _ _ | refine bg_al ?_ | refine bg_gr ?_ | refine bg_drn ?_ | refine bg_dr ?_ | assumption)))) (by have := HN.out; simp; omega) ?_; intro D2 A2 c2 ho2 hc2 hm2; have HO2 := Lib.hid ho2; clear ho2)
  rw [rounds_succ]
  go_wp2_with (at_builtin; refine ap_own la lb (la ++ lb) (la.length + lb.length) rfl (by simp) rfl rfl rfl rfl (HO2.out _ (by (repeat (first | (refine at_base ?_; simp only [World.size_alloc, size_gr, World.size_setCell, World.size_drew]; done) | (refine at_base ?_; rfl) | refine at_al ?_ | refine at_gr ?_ | refine at_drn ?_ | refine at_dr ?_ | assumption)))) rfl (HB.out.below (by (repeat (first | exact Below.refl _ _ | refine bg_al ?_ | refine bg_gr ?_ | refine bg_drn ?_ | refine bg_dr ?_ | assumption)))) (by have := HN.out; omega) ?_; intro D3 A3 c3 ho3 hc3 hm3; have HO3 := Lib.hid ho3; clear ho3)
  rw [rounds_succ]
  go_wp2
  go_ret
  exact ⟨_, _, rfl, HO3.out _ (by (repeat (first | (refine at_base ?_; simp only [World.size_alloc, size_gr, World.size_setCell, World.size_drew]; done) | (refine at_base ?_; rfl) | refine at_al ?_ | refine at_gr ?_ | refine at_drn ?_ | refine at_dr ?_ | assumption))), by (repeat (first | exact Below.refl _ _ | refine bg_al ?_ | refine bg_gr ?_ | refine bg_drn ?_ | refine bg_dr ?_ | assumption))⟩
end Go.Proofs.Ytcbglojjbgenlaa
namespace Go.Proofs.Ytcbglojjbgenlaa
open Go.RowKit Go.MapL Go.ChangeMaps Go.MapKept
set_option linter.unusedSimpArgs false
set_option linter.unusedVariables false
attribute [local go_sem] size_gr cell_gr frozen_gr setCell_gr gr_drew gr_drewN lt_k lt_kc le_k le_kc sub_kc nil29 nil28 nil49 mkmap size_setBlock cell_setB
attribute [local go_sem ↓] Go.wp_at_zero Go.wp_at_succ

theorem dev_set3 {w : World} {D : Nat} {f : Fd} (h : DevAt w D f) (v : Value) : DevAt (w.setCell ⟨D, 3, none⟩ v) D { f with log := v } := by
  unfold DevAt
  rw [setCell_row h]
  rfl

theorem lit_cell (W : World) (cs : Array Value) (t : TypeId) (i : Nat) {v : Value} (h : cs[i]? = some v) : (W.alloc (.cells cs t)).drew.cell? ⟨W.heap.size, i, none⟩ = some v := by
  show (W.alloc (.cells cs t)).cell? _ = _
  rw [cell_of_row _ _ _ _ _ _ (heap_alloc_last _ _), h]
set_option maxRecDepth 8000 in
theorem does_append (D A B nB : Nat) (f : Fd) (mB : H32 → Option Value) (q : H32) (da ks : Value) (n cnt : Int) (tag : H32) (w : World) (hD : DevAt w D f) (hA : DeedAt w A 6 q da ks n cnt tag) (hfB : f.bm = .map (some B)) (hB : MapIs HC w B mB nB)
    (ll ld : Bs) (hlog : SB w f.log ll) (hda : SB w da ld) (hroom : (ll.length : Int) + ld.length ≤ f.room) (hbig : ll.length + ld.length ≤ 1099511627776) :
    Calls Try.prog 62 #[.pointer (some ⟨D, 0, none⟩), .pointer (some ⟨A, 0, none⟩)] w fun e w' => ∃ lA lc, e = .returned (.int .i64 0) ∧ DevAt w' D { f with log := .slice lA (ll.length + ld.length) lc } ∧ OwnB w' w.heap.size (.slice lA (ll.length + ld.length) lc) (ll ++ ld) ∧ Chg (fun k => k = D) w w' := by
  have HSL := Lib.hid hlog
  have HSD := Lib.hid hda
  obtain ⟨lA, lc, hlv, -⟩ := hlog
  obtain ⟨dA, dc, rfl, -⟩ := hda
  have HR := Lib.hid (refuses_append D A B nB f mB q _ ks n cnt tag w hD hA hfB hB _ rfl _ rfl lA _ lc hlv dA _ dc rfl hbig hroom)
  rw [hlv] at HSL
  have HDq := Lib.hid hD
  obtain ⟨hc0, hc1, hc2, hc3, hc4, -⟩ := dev_c hD
  obtain ⟨ha0, ha33, ha34, ha35, ha36, hak, har⟩ := deed_c hA
  have hf3 := dev_fr hD 3
  have hDA := dev_ne_deed hD hA
  rw [hlv] at hc3
  have hDlt : D < w.heap.size := World.block_lt_of_cell? w _ hc3
  have hAlt : A < w.heap.size := World.block_lt_of_cell? w _ ha0
  have HN := Lib.hid hbig
  clear hD hA hfB hB hak har hlv hroom hbig
  go_enter Try.func62, Try.ntmps62
  go_wp2_with (go_at_call 63; refine HR.out.mono ?_; rintro en w1 ⟨rfl, n1, rfl⟩)
  refine with_world (fun W0 hW0 => ?_)
  have hB0 : Below w.heap.size w W0 := by rw [hW0]; (repeat (first | exact Below.refl _ _ | refine bg_al ?_ | refine bg_gr ?_ | refine bg_drn ?_ | refine bg_dr ?_ | assumption))
  have HB0 := Lib.hid hB0
  have z0 : D < W0.heap.size := by have := hB0.size; omega
  have y0 : A < W0.heap.size := by have := hB0.size; omega
  have k3 : W0.cell? ⟨D, 3, none⟩ = some (.slice lA ll.length lc) := by rw [hB0.cell (p := ⟨D, 3, none⟩) hDlt]; exact hc3
  have kf3 : W0.frozen? ⟨D, 3, none⟩ = false := by rw [hB0.frozen (p := ⟨D, 3, none⟩) hDlt]; exact hf3
  have k33 : W0.cell? ⟨A, 33, none⟩ = some (.slice dA ld.length dc) := by rw [hB0.cell (p := ⟨A, 33, none⟩) hAlt]; exact ha33
  clear hB0 hW0
  go_region_law (go_simp; go_at_call 76; refine (concat_two _ _ _ ll ld _ (lit_cell _ _ _ _ rfl) (lit_cell _ _ _ _ rfl) ((HSL.out.below HB0.out).below (by (repeat (first | exact Below.refl _ _ | refine bg_al ?_ | refine bg_gr ?_ | refine bg_drn ?_ | refine bg_dr ?_ | assumption)))) ((HSD.out.below HB0.out).below (by (repeat (first | exact Below.refl _ _ | refine bg_al ?_ | refine bg_gr ?_ | refine bg_drn ?_ | refine bg_dr ?_ | assumption)))) HN.out).mono ?_; rintro en w2 ⟨A2, c2, rfl, ho2, hb2⟩; obtain ⟨D2, rfl⟩ := gr_of_below hb2; clear hb2; have HO2 := Lib.hid ho2; clear ho2)
  all_goals go_wp2_with fail
  all_goals go_ret
  all_goals
    refine ⟨A2, c2, rfl, ?_, ?_, ?_⟩
    · refine dev_bel (dev_set3 (dev_bel HDq.out HB0.out) _) (by (repeat (first | exact Below.refl _ _ | refine bg_al ?_ | refine bg_gr ?_ | refine bg_drn ?_ | refine bg_dr ?_ | assumption)))
    · exact ((ownB_at HO2.out) _ (by (repeat (first | (refine at_base ?_; simp only [World.size_alloc, size_gr, World.size_setCell, World.size_drew]; done) | (refine at_base ?_; rfl) | refine at_al ?_ | refine at_gr ?_ | refine at_drn ?_ | refine at_dr ?_ | assumption)))).mono (by have := HB0.out.size; simp; omega)
    · refine (chg_set (S := fun k => k = D) (Below.chg _ HB0.out) rfl _).trans (Below.chg _ (by (repeat (first | exact Below.refl _ _ | refine bg_al ?_ | refine bg_gr ?_ | refine bg_drn ?_ | refine bg_dr ?_ | assumption))))
end Go.Proofs.Ytcbglojjbgenlaa
namespace Go.Proofs.Ytcbglojjbgenlaa
open Go.RowKit Go.MapL Go.ChangeMaps Go.MapKept
set_option linter.unusedSimpArgs false
set_option linter.unusedVariables false
attribute [local go_sem] size_gr cell_gr frozen_gr setCell_gr gr_drew gr_drewN lt_k lt_kc le_k le_kc sub_kc nil29 nil28 nil49 mkmap size_setBlock cell_setB
attribute [local go_sem ↓] Go.wp_at_zero Go.wp_at_succ

theorem chg_al {S : Nat → Prop} {a w : World} {o : Obj} (h : Chg S a w) : Chg S a (w.alloc o) := h.trans (Below.chg _ (bg_al (Below.refl _ _)))
theorem chg_dr {S : Nat → Prop} {a w : World} (h : Chg S a w) : Chg S a w.drew := h.drewN 1
theorem chg_setBl {B : Nat} {R : Nat → Prop} {a w : World} {o : Obj} (h : Chg (fun k => k = B ∨ R k) a w) : Chg (fun k => k = B ∨ R k) a (setBlock w B o) := chg_setB (S := fun k => k = B ∨ R k) h (Or.inl rfl) o
theorem grown_chg {a w w' : World} {r : Option Nat} {S : Nat → Prop} (h : Chg S a w) (hg : w.grownBy w' r) (hr : ∀ k, r = some k → S k) : Chg S a w' :=
  h.trans ⟨hg.os, hg.tape, hg.output, hg.size, fun k hk hs => hg.block k hk (fun e => hs (hr k e.symm))⟩
theorem range_chg {S : Nat → Prop} {w w' : World} {g o : Nat} {cs : List Value} (h : w.rangeAt g o cs) (hb : Chg S w w') (hs : ¬ S g) : w'.rangeAt g o cs := fun j v hv => by
  have := h j v hv
  rw [World.cell?_of_block (hb.block g (World.block_lt_of_cell? w _ this) hs)]
  exact this
theorem keepC {S : Nat → Prop} {W0 W : World} {A : Nat} {q : H32} (hr : W0.rangeAt A 1 (q.1.map bv)) (hs : ¬ S A) (h : Chg S W0 W) :
    (∀ (b o : Nat), b < W0.heap.size → ¬ S b → W.cell? ⟨b, o, none⟩ = W0.cell? ⟨b, o, none⟩) ∧ W.rangeAt A 1 (q.1.map bv) :=
  ⟨fun b o hb hn => World.cell?_of_block (h.block b hb hn), range_chg hr h hs⟩

set_option maxHeartbeats 1000000 in
set_option maxRecDepth 8000 in
theorem does_put (D A B N V nB nN nV : Nat) (f : Fd) (mB mN mV : H32 → Option Value) (q : H32) (dA : Option Addr) (dn dc : Nat) (ks : Value) (n cnt : Int) (tag : H32) (w : World) (hD : DevAt w D f) (hA : DeedAt w A 2 q (.slice dA dn dc) ks n cnt tag)
    (hfB : f.bm = .map (some B)) (hfN : f.nb = .map (some N)) (hfV : f.vers = .map (some V)) (hBN : B ≠ N) (hVB : V ≠ B) (hVN : V ≠ N) (hB : MapIs HC w B mB nB) (hN : MapIs HC w N mN nN) (hV : MapIs HC w V mV nV)
    (hno : mN q = none) (hroom : (mB q).isSome = true ∨ (nB : Int) < f.slots) (xA : Option Addr) (xn xc : Nat) (xb : Bool) (hxo : (mB q).getD (.slice none 0 0) = .slice xA xn xc) (hxb : (mB q).isSome = xb) (nB' : Nat) (hnB : (if (mB q).isSome then nB else nB + 1) = nB')
    (oA : Option Addr) (on oc : Nat) (hvo : (mV q).getD (.slice none 0 0) = .slice oA on oc) (vals : List Value) (hown : w.ownsRow 0 29 1 (.slice oA on oc) on vals) (hbig : on ≤ 1099511627776) (hDo : (Value.slice oA on oc).ownBlock ≠ some D) (hAo : (Value.slice oA on oc).ownBlock ≠ some A) :
    Calls Try.prog 62 #[.pointer (some ⟨D, 0, none⟩), .pointer (some ⟨A, 0, none⟩)] w fun e w' => ∃ v9 nV', e = .returned (.int .i64 0) ∧ MapIs HC w' B (putV mB q (.slice dA dn dc)) nB' ∧ MapIs HC w' N (putV mN q (.agg #[.slice xA xn xc, .bool xb])) (nN + 1) ∧
      MapIs HC w' V (putV mV q v9) nV' ∧ w'.ownsRow 0 29 1 v9 (on + 1) (vals ++ [.slice dA dn dc]) ∧ (v9.ownBlock = (Value.slice oA on oc).ownBlock ∨ ∃ k, w.heap.size ≤ k ∧ v9.ownBlock = some k) ∧ Chg (fun k => k = B ∨ k = N ∨ k = V ∨ (Value.slice oA on oc).ownBlock = some k) w w' := by
  have HR : Hid (Calls Try.prog 63 #[.pointer (some ⟨D, 0, none⟩), .pointer (some ⟨A, 0, none⟩)] w fun e w' => e = .returned (.int .i64 0) ∧ ∃ k, w' = w.drewN k) := Lib.hid (by
    cases hb : (mB q).isSome with
    | true => exact refuses_put_old D A B nB f mB q _ ks n cnt tag w hD hA hfB hB _ rfl hb
    | false =>
      rw [hb] at hroom
      exact refuses_put D A B nB f mB q _ ks n cnt tag w hD hA hfB hB _ rfl hb (hroom.resolve_left (by simp)))
  have HDq := Lib.hid hD
  have HAq := Lib.hid hA
  obtain ⟨hc0, hc1, hc2, hc3, hc4, -, -, -, hc40, -⟩ := dev_c hD
  obtain ⟨ha0, ha33, ha34, ha35, ha36, hak, har⟩ := deed_c hA
  rw [hfV] at hc40
  have hDA := dev_ne_deed hD hA
  have hDB := (map_ne_cells hB hD).symm
  have hDN := (map_ne_cells hN hD).symm
  have hDV := (map_ne_cells hV hD).symm
  have hAB := (map_ne_cells hB hA).symm
  have hAN := (map_ne_cells hN hA).symm
  have hAV := (map_ne_cells hV hA).symm
  have hDlt : D < w.heap.size := World.block_lt_of_cell? w _ hc2
  have hAlt : A < w.heap.size := World.block_lt_of_cell? w _ ha0
  have HK := Lib.hid hak
  have HB := Lib.hid hB
  have HN := Lib.hid hN
  have HV := Lib.hid hV
  have HSET := Lib.hid (fun (W : World) (hb : Below w.heap.size w W) => set_new D B N nB nN f mB mN q (.slice dA dn dc) W (dev_bel hD hb) hfB hfN hBN (map_bel hB hb) (map_bel hN hb) hno xA xn xc xb hxo hxb nB' hnB)
  have HOW := Lib.hid hown
  have HVO := Lib.hid hvo
  have HBIG := Lib.hid hbig
  have hql := q_len q
  have hqu := Try.underlying33
  have hqi := hash_info q
  clear hD hA hB hN hV hak har hroom hno hxo hxb hnB hvo hown hbig hfB hfN hfV
  unfold hv at HSET
  go_enter Try.func62, Try.ntmps62
  go_wp2_with (go_at_call 63; refine HR.out.mono ?_; rintro en w1 ⟨rfl, n1, rfl⟩)
  refine with_world (fun W0 hW0 => ?_)
  have hB0 : Below w.heap.size w W0 := by rw [hW0]; (repeat (first | exact Below.refl _ _ | refine bg_al ?_ | refine bg_gr ?_ | refine bg_drn ?_ | refine bg_dr ?_ | assumption))
  have HB0 := Lib.hid hB0
  have z0 : D < W0.heap.size := by have := hB0.size; omega
  have y0 : A < W0.heap.size := by have := hB0.size; omega
  have k33 : W0.cell? ⟨A, 33, none⟩ = some (.slice dA dn dc) := by rw [hB0.cell (p := ⟨A, 33, none⟩) hAlt]; exact ha33
  have k40 : W0.cell? ⟨D, 40, none⟩ = some (.map (some V)) := by rw [hB0.cell (p := ⟨D, 40, none⟩) hDlt]; exact hc40
  clear hB0 hW0
  go_region_held3 (fun W => (∀ (b o : Nat), b < W0.heap.size → ¬ (b = B ∨ b = N) → W.cell? ⟨b, o, none⟩ = W0.cell? ⟨b, o, none⟩) ∧ W.rangeAt A 1 (q.1.map bv))
    (first | exact keepC (S := fun k => k = B ∨ k = N) (range_bel HK.out HB0.out) (by simp [hAB, hAN]) (HCH.out) | exact keepC (S := fun k => k = B ∨ k = N) (range_bel HK.out HB0.out) (by simp [hAB, hAN]) (Below.chg _ (by (repeat (first | exact Below.refl _ _ | refine bg_al ?_ | refine bg_gr ?_ | refine bg_drn ?_ | refine bg_dr ?_ | assumption)))))
    (first | (go_at_call 65; refine (HSET.out _ (by have hB0 := HB0.out; (repeat (first | exact Below.refl _ _ | refine bg_al ?_ | refine bg_gr ?_ | refine bg_drn ?_ | refine bg_dr ?_ | assumption)))).mono ?_; rintro en w2 ⟨rfl, hb2, hn2, hch2⟩; have HB2 := Lib.hid hb2; have HN2 := Lib.hid hn2; have HCH := Lib.hid (show Chg (fun k => k = B ∨ k = N) W0 w2 from ⟨hch2.os, hch2.tape, hch2.output, hch2.size, hch2.block⟩); clear hb2 hn2 hch2))
  go_wp2_with fail
  have hC1 : Chg (fun k => k = B ∨ k = N) w w2 := (Below.chg _ HB0.out).trans HCH.out
  have HC1 := Lib.hid hC1
  have hOb : ∀ k, (Value.slice oA on oc).ownBlock = some k → k < w.heap.size ∧ ¬ (k = B ∨ k = N) ∧ k ≠ V := fun k hk => by
    rcases HOW.out.2 with ⟨e, _⟩ | ⟨g, cap, cur, e, _, hg, _⟩
    · rw [e] at hk; simp [Value.ownBlock] at hk
    · rw [e] at hk
      simp [Value.ownBlock] at hk
      subst hk
      exact ⟨(Array.getElem?_eq_some_iff.1 hg).1, fun h => h.elim (fun h => map_ne_cells HB.out hg h.symm) (fun h => map_ne_cells HN.out hg h.symm), fun h => map_ne_cells HV.out hg h.symm⟩
  have HOB := Lib.hid hOb
  have x0 : D < w2.heap.size := by have := hC1.size; omega
  have x1 : A < w2.heap.size := by have := hC1.size; omega
  have x2 : V < w2.heap.size := by have := hC1.size; have := HV.out.lt; omega
  have j40 : w2.cell? ⟨D, 40, none⟩ = some (.map (some V)) := by rw [World.cell?_of_block (hC1.block D hDlt (by simp [hDB, hDN]))]; exact hc40
  have j33 : w2.cell? ⟨A, 33, none⟩ = some (.slice dA dn dc) := by rw [World.cell?_of_block (hC1.block A hAlt (by simp [hAB, hAN]))]; exact ha33
  have HR1 := Lib.hid (range_chg HK.out hC1 (by simp [hAB, hAN]))
  have hV1 := map_chg HV.out hC1 (by simp [hVB, hVN])
  have HV1 := Lib.hid hV1
  have hO1 : w2.ownsRow 0 29 1 (.slice oA on oc) on vals := own_chg HOW.out hC1 (fun k hk => (hOb k hk).2.1)
  have HO1 := Lib.hid hO1
  obtain ⟨st1, o1, hr1, hf1⟩ := map_entry (map_bel hV1 (show Below w2.heap.size w2 w2.drew by (repeat (first | exact Below.refl _ _ | refine bg_al ?_ | refine bg_gr ?_ | refine bg_drn ?_ | refine bg_dr ?_ | assumption)))) Try.underlying78 zeroR q
  obtain ⟨st2, o2, hr2, hf2⟩ := map_entry (map_bel hV1 (show Below w2.heap.size w2 (w2.alloc (.cells #[.slice dA dn dc] 29)).drew by (repeat (first | exact Below.refl _ _ | refine bg_al ?_ | refine bg_gr ?_ | refine bg_drn ?_ | refine bg_dr ?_ | assumption)))) Try.underlying78 zeroR q
  rw [HVO.out] at hr1 hr2
  unfold hv at hr1 hr2
  have HF1 := Lib.hid hf1
  have HF2 := Lib.hid hf2
  have hVg1 : ∀ o, (setBlock w2.drew V o).heap[V]? = some o := fun o => by obtain ⟨es, clk, hb, _⟩ := hV1; exact heap_setBlock_same (w := w2.drew) hb o
  have HVG1 := Lib.hid hVg1
  have hVg2 : ∀ o, (setBlock (w2.alloc (.cells #[.slice dA dn dc] 29)).drew V o).heap[V]? = some o := fun o => by
    obtain ⟨es, clk, hb, _⟩ := map_bel hV1 (show Below w2.heap.size w2 (w2.alloc (.cells #[.slice dA dn dc] 29)).drew by (repeat (first | exact Below.refl _ _ | refine bg_al ?_ | refine bg_gr ?_ | refine bg_drn ?_ | refine bg_dr ?_ | assumption)))
    exact heap_setBlock_same hb o
  have HVG2 := Lib.hid hVg2
  have HSa := Lib.hid (show Chg (fun k => k = V ∨ (Value.slice oA on oc).ownBlock = some k) w2 ((setBlock w2.drew V o1).alloc (.cells #[.slice dA dn dc] 29)) from chg_al (chg_setBl (chg_dr (Chg.refl _ _))))
  have HSb := Lib.hid (show Chg (fun k => k = V ∨ (Value.slice oA on oc).ownBlock = some k) w2 (setBlock (w2.alloc (.cells #[.slice dA dn dc] 29)).drew V o2) from chg_setBl (chg_dr (chg_al (Chg.refl _ _))))
  have HOa := Lib.hid (show ((setBlock w2.drew V o1).alloc (.cells #[.slice dA dn dc] 29)).ownsRow 0 29 1 (.slice oA on oc) on vals from own_chg hO1 (S := fun k => k = V ∨ False) (chg_al (chg_setBl (chg_dr (Chg.refl _ _)))) (fun k hk => by simp [(hOb k hk).2.2]))
  have HOb := Lib.hid (show (setBlock (w2.alloc (.cells #[.slice dA dn dc] 29)).drew V o2).ownsRow 0 29 1 (.slice oA on oc) on vals from own_chg hO1 (S := fun k => k = V ∨ False) (chg_setBl (chg_dr (chg_al (Chg.refl _ _)))) (fun k hk => by simp [(hOb k hk).2.2]))
  have HLa := Lib.hid (show ((setBlock w2.drew V o1).alloc (.cells #[.slice dA dn dc] 29)).heap[w2.heap.size]? = some (.cells #[.slice dA dn dc] 29 (0, 0)) from by
    rw [show w2.heap.size = (setBlock w2.drew V o1).heap.size from (size_setBlock _ _ _).symm]; exact heap_alloc_last _ _)
  have HLb := Lib.hid (show (setBlock (w2.alloc (.cells #[.slice dA dn dc] 29)).drew V o2).heap[w2.heap.size]? = some (.cells #[.slice dA dn dc] 29 (0, 0)) from by
    rw [heap_setB _ _ _ _ (by omega)]; exact heap_alloc_last w2 _)
  have HMa := Lib.hid (show ((setBlock w2.drew V o1).alloc (.cells #[.slice dA dn dc] 29)).heap[V]? = some o1 from by
    rw [Below.heap_alloc _ _ _ (by rw [size_setBlock]; exact x2)]; exact hVg1 o1)
  clear hC1 hOb hV1 hO1 hf1 hf2 hVg1 hVg2
  go_region_held3 (fun W => (∀ (b o : Nat), b < w2.heap.size → ¬ (b = V ∨ (Value.slice oA on oc).ownBlock = some b) → W.cell? ⟨b, o, none⟩ = w2.cell? ⟨b, o, none⟩) ∧ W.rangeAt A 1 (q.1.map bv))
    (first | exact keepC HR1.out (by simp [hAV, hAo]) (chg_setBl HK9.out) | exact keepC HR1.out (by simp [hAV, hAo]) HK9.out | exact keepC HR1.out (by simp [hAV, hAo]) HSa.out | exact keepC HR1.out (by simp [hAV, hAo]) HSb.out | exact keepC HR1.out (by simp [hAV, hAo]) (chg_setBl (chg_dr (Chg.refl _ _))) | exact keepC HR1.out (by simp [hAV, hAo]) (chg_dr (chg_al (Chg.refl _ _))) | exact keepC HR1.out (by simp [hAV, hAo]) (chg_dr (Chg.refl _ _)))
    (first
      | (refine step_ap rowsT (by rfl) (by rfl) (by rfl) HOb.out (by rfl) (Src.block (m := 1) HLb.out (by rfl)) (by simp [Value.oneCell']) (by have := HBIG.out; simp only [maxLen]; omega) (by have := HBIG.out; omega) (Nat.zero_le _) ?_; intro v9 w9 hap; have HAP := Lib.hid hap; have HK9 := Lib.hid (grown_chg HSb.out hap.2.1 (fun k hk => Or.inr hk)); obtain ⟨g9, c9, rfl, hc9, hm9, hb9, hlt9⟩ := own_form hap.1 (by omega); obtain ⟨o9, hr9, hmap9⟩ := HF2.out w9 (.slice (some ⟨g9, 0, none⟩) (on + 1) c9) ((hap.2.1.block V (by rw [size_setBlock]; show V < (w2.alloc _).heap.size; rw [World.size_alloc]; exact Nat.lt_succ_of_lt x2) (fun e => (HOB.out V e.symm).2.2 rfl)).trans (HVG2.out o2)); have HM9 := Lib.hid hmap9; clear hap hmap9))
  go_wp2_with fail
  go_ret
  have hK := chg_setBl (o := o9) HK9.out
  have hOwn := own_chg (S := fun k => k = V ∨ False) HAP.out.1 (chg_setBl (o := o9) (Chg.refl _ w9)) (fun k hk => by
    simp [Value.ownBlock] at hk
    subst hk
    rintro (rfl | h)
    · rcases HAP.out.2.2 with ⟨h, _⟩ | ⟨h, _⟩
      · exact (HOB.out g9 h.symm).2.2 rfl
      · simp only [Value.ownBlock, Option.some.injEq, size_setBlock] at h
        have h2 : (w2.alloc (.cells #[.slice dA dn dc] 29)).drew.heap.size = w2.heap.size + 1 := by
          show (w2.alloc _).heap.size = _
          rw [World.size_alloc]
        omega
    · exact h)
  refine ⟨rfl, ?_, ?_, _, ⟨_, HM9.out⟩, hOwn, ?_, ?_⟩
  · exact map_chg HB2.out hK (by
      rintro (h | h)
      · exact hVB h.symm
      · exact (HOB.out B h).2.1 (Or.inl rfl))
  · exact map_chg HN2.out hK (by
      rintro (h | h)
      · exact hVN h.symm
      · exact (HOB.out N h).2.1 (Or.inr rfl))
  · rcases HAP.out.2.2 with ⟨h, _⟩ | ⟨h, _⟩
    · exact Or.inl h
    · refine Or.inr ⟨_, ?_, h⟩
      rw [size_setBlock]
      have := HC1.out.size
      show w.heap.size ≤ (w2.alloc _).heap.size
      rw [World.size_alloc]
      omega
  · exact (HC1.out.mono (fun k _ h => h.elim Or.inl (fun h => Or.inr (Or.inl h)))).trans (hK.mono (fun k _ h => Or.inr (Or.inr h)))
end Go.Proofs.Ytcbglojjbgenlaa
