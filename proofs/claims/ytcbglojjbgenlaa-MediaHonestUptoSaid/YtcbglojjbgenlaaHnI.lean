/- does of the plain thing: the cases that write its log or its pair. does of the plain thing: the cases that write its map. -/
import Derived.Test.YtcbglojjbgenlaaHonLD
namespace Go.Proofs.Ytcbglojjbgenlaa
open Go.RowKit Go.MapL Go.ChangeMaps Go.MapKept
set_option linter.unusedSimpArgs false
set_option linter.unusedVariables false
attribute [local go_sem] size_gr cell_gr frozen_gr setCell_gr gr_drew gr_drewN lt_k lt_kc le_k le_kc sub_kc nil29 nil28 nil49 mkmap size_setBlock cell_setB opC_len opC_0 opC_33 opC_34 opC_35 opC_0g opC_33g opC_34g opC_35g
attribute [local go_sem ↓] Go.wp_at_zero Go.wp_at_succ

theorem pl_bel {w w' : World} {P : Nat} {sl rm : Int} {kv dv lv : Value} {c : Int} {t : H32} (h : PlAt w P sl rm kv dv lv c t) (hb : Below w.heap.size w w') : PlAt w' P sl rm kv dv lv c t := (hb.block _ (Array.getElem?_eq_some_iff.1 h).1).trans h
theorem op_bel {w w' : World} {g : Nat} {o : Opv} (h : OpAt w g o) (hb : Below w.heap.size w w') : OpAt w' g o := (hb.block _ (Array.getElem?_eq_some_iff.1 h).1).trans h
theorem own_drew0 {w : World} {base : Nat} {e : TypeId} {size : Nat} {v : Value} {n : Nat} {xs : List Value} (h : w.ownsRow base e size v n xs) : w.drew.ownsRow base e size v n xs := h
theorem op_lt {w : World} {g : Nat} {o : Opv} (h : OpAt w g o) : g < w.heap.size := (Array.getElem?_eq_some_iff.1 h).1
theorem pl_notbytes {w : World} {P : Nat} {sl rm : Int} {kv dv lv : Value} {c : Int} {t : H32} (h : PlAt w P sl rm kv dv lv c t) : ∀ k, isBytes w k → ¬ k = P := by
  rintro k ⟨cs, fr, hk⟩ rfl
  unfold PlAt at h
  rw [hk] at h
  injection h with h
  injection h with _ h
  exact absurd h (by decide)
theorem pl_set4 {w : World} {P : Nat} {sl rm : Int} {kv dv lv : Value} {c : Int} {t : H32} (h : PlAt w P sl rm kv dv lv c t) (v : Value) : PlAt (w.setCell ⟨P, 4, none⟩ v) P sl rm kv dv v c t := by
  unfold PlAt
  rw [setCell_row h]
  rfl
theorem pl_set2 {w : World} {P : Nat} {sl rm : Int} {kv dv lv : Value} {c : Int} {t : H32} (h : PlAt w P sl rm kv dv lv c t) (v : Value) : PlAt (w.setCell ⟨P, 2, none⟩ v) P sl rm v dv lv c t := by
  unfold PlAt
  rw [setCell_row h]
  rfl
theorem pl_set3 {w : World} {P : Nat} {sl rm : Int} {kv dv lv : Value} {c : Int} {t : H32} (h : PlAt w P sl rm kv dv lv c t) (v : Value) : PlAt (w.setCell ⟨P, 3, none⟩ v) P sl rm kv v lv c t := by
  unfold PlAt
  rw [setCell_row h]
  rfl
theorem st_regP {w : World} {P : Nat} {sl rm : Int} {kv dv lv : Value} {c0 : Int} {t0 : H32} (h : PlAt w P sl rm kv dv lv c0 t0) (c : Int) (t : H32) :
    (storeCells ⟨P, 5, none⟩ (regC c t) 0).run Try.prog w = .ok () (w.setRow P (plC sl rm kv dv lv c t).toArray) := by
  rw [run_storeCells_at Try.prog P 5 _ (regC c t) 0 _ w h (by rw [List.size_toArray, plC_len, reg_len]; omega) (fun v hv => (Array.all_eq_true_iff_forall_mem.1 (reg_one c t)) v (by simpa using hv))]
  congr 2
  rw [List.toList_toArray, plC, plC, List.take_append_of_le_length (by simp), List.take_of_length_le (by simp), List.drop_eq_nil_of_le (by simp [reg_len])]
  simp
theorem plC_inj {sl rm c : Int} {t : H32} {kv dv lv kv' dv' lv' : Value} {fr : Nat × Nat} (h : some (Obj.cells (plC sl rm kv dv lv c t).toArray 62 fr) = some (Obj.cells (plC sl rm kv' dv' lv' c t).toArray 62 fr)) : kv = kv' ∧ dv = dv' ∧ lv = lv' := by
  injection h with h
  injection h with h
  have h' := congrArg Array.toList h
  simp only [List.toList_toArray, plC, List.cons_append, List.nil_append, List.cons.injEq] at h'
  exact ⟨h'.2.2.1, h'.2.2.2.1, h'.2.2.2.2.1⟩
theorem LMid.parts {w0 w : World} {D : Nat} {F : Nat → Prop} {P : Nat} {s s' : Hn} {keys : List H32} {datas : List Bs} {k : Nat} (h : LMid w0 w D F P s s' keys datas k) : ∃ kv dv lA lc, PlAt w P s.slots s.room kv dv (.slice lA s.log.length lc) s.cnt s.tag ∧ DB w (fun _ => True) (.slice lA s.log.length lc) s.log ∧ s.log.length ≤ lc ∧ (lc : Int) ≤ 9223372036854775807 := by
  obtain ⟨kv, dv, lv, vals, h1, h2, h4, h5, h6, h7, h8, h9⟩ := h.mem
  have h9' := h9
  obtain ⟨⟨lA, lc, rfl, _, hl, hm, _⟩, _⟩ := h9
  unfold maxLen at hm
  exact ⟨kv, dv, lA, lc, h1, h9', hl, by omega⟩
def LogCut2 (lA : Option Addr) (lc k : Nat) : Value := .slice lA k lc
theorem db_cut2 {w : World} {F : Nat → Prop} {lA : Option Addr} {ln lc k : Nat} {l : Bs} (h : DB w F (.slice lA ln lc) l) (hk : k ≤ ln) : DB w F (LogCut2 lA lc k) (l.take k) := by
  obtain ⟨⟨A, c, e, hr, h1, h2, h3⟩, hv⟩ := h
  injection e with e1 e2 e3
  subst e1 e3
  have hl : (l.take k).length = k := by rw [List.length_take]; omega
  refine ⟨⟨lA, lc, by unfold LogCut2; rw [hl], fun j hj => ?_, by rw [hl]; omega, h2, h3⟩, fun b hb => by cases lA <;> exact hv b hb⟩
  obtain ⟨b, off, e, hc⟩ := hr j (by rw [hl] at hj; omega)
  refine ⟨b, off, e, ?_⟩
  rw [hc]
  congr 2
  simp
/-- the plain thing follows: its log, its pair -/
theorem LMid.setP {w0 w1 w2 : World} {D : Nat} {F : Nat → Prop} {P : Nat} {s s' : Hn} {keys : List H32} {datas : List Bs} {k : Nat} (h : LMid w0 w1 D F P s s' keys datas k) (hc : Chg (fun j => j = P) w1 w2)
    (hm : ∀ kv dv lv, PlAt w1 P s.slots s.room kv dv lv s.cnt s.tag → ∃ lv', PlAt w2 P s'.slots s'.room kv dv lv' s'.cnt s'.tag ∧ DB w2 (fun _ => True) lv' s'.log) (hkd : s'.blobs = s.blobs ∧ s'.n = s.n) (hbd : Bd s' keys) : LInv w0 w2 D F P s' keys datas k := by
  obtain ⟨kv, dv, lv, vals, h1, h2, h4, h5, h6, h7, h8, h9⟩ := h.mem
  obtain ⟨lv', g1, g2⟩ := hm kv dv lv h1
  have hne : ∀ {base : Nat} {e : TypeId} {size : Nat} {v : Value} {n : Nat} {xs : List Value}, w1.ownsRow base e size v n xs → e ≠ 62 → ∀ b, v.ownBlock = some b → ¬ b = P := fun hv he b hb e => by
    subst e
    obtain ⟨c, fr, hh⟩ := own_heap hv hb
    unfold PlAt at h1
    rw [h1] at hh
    injection hh with hh
    injection hh with _ hh
    exact he hh.symm
  refine h.fin hc (fun j hj _ => ?_) ⟨kv, dv, lv', vals, g1, h2, own_chg h4 hc (hne h4 (by decide)), h5, own_chg h6 hc (hne h6 (by decide)), h7, h8, g2⟩ (by rw [hkd.1, hkd.2]; exact h.kd) hbd
  subst hj
  exact ⟨h2.2, h2.1, _, _, _, h1, by decide⟩

end Go.Proofs.Ytcbglojjbgenlaa
namespace Go.Proofs.Ytcbglojjbgenlaa
open Go.RowKit Go.MapL Go.ChangeMaps Go.MapKept
set_option linter.unusedSimpArgs false
set_option linter.unusedVariables false
attribute [local go_sem] size_gr cell_gr frozen_gr setCell_gr gr_drew gr_drewN lt_k lt_kc le_k le_kc sub_kc nil29 nil28 nil49 mkmap size_setBlock cell_setB opC_len opC_0 opC_33 opC_34 opC_35 opC_0g opC_33g opC_34g opC_35g
attribute [local go_sem ↓] Go.wp_at_zero Go.wp_at_succ

/-- a key's load, kept whole -/
def KeyLoad (v : Value) := Instr.loadAt 33 v
theorem loadAt_key (v : Value) : Instr.loadAt 33 v = KeyLoad v := rfl
theorem ld_key {W : World} {b o : Nat} {q : H32} (h : W.rangeAt b o (q.1.map bv)) : (KeyLoad (.pointer (some ⟨b, o, none⟩))).run Try.prog W = .ok (.agg (q.1.map bv).toArray) W := run_loadAt_mid _ _ _ _ _ _ h Try.underlying33 rfl (hash_info q)
theorem ap_blk {w w' : World} {base : Nat} {e e' : TypeId} {size : Nat} {v v' : Value} {n m : Nat} {xs ys : List Value} {k : Nat} {c : Array Value} {fr : Nat × Nat} (h : Appended w base e size v n xs w' v') (hv : w.ownsRow base e size v m ys) (he : e ≠ e') (hk : w.heap[k]? = some (.cells c e' fr)) : w'.heap[k]? = some (.cells c e' fr) := by
  refine (h.2.1.block k (Array.getElem?_eq_some_iff.1 hk).1 (fun eq => ?_)).trans hk
  obtain ⟨_, _, hh⟩ := own_heap hv eq.symm
  rw [hk] at hh
  injection hh with hh
  injection hh with _ hh
  exact he hh.symm
theorem ap_pl {w w' : World} {base : Nat} {e : TypeId} {size : Nat} {v v' : Value} {n m : Nat} {xs ys : List Value} {P : Nat} {sl rm : Int} {kv dv lv : Value} {c : Int} {t : H32} (h : Appended w base e size v n xs w' v') (hv : w.ownsRow base e size v m ys) (he : e ≠ 62) (hP : PlAt w P sl rm kv dv lv c t) : PlAt w' P sl rm kv dv lv c t := ap_blk h hv he hP
theorem ap_op {w w' : World} {base : Nat} {e : TypeId} {size : Nat} {v v' : Value} {n m : Nat} {xs ys : List Value} {g : Nat} {o : Opv} (h : Appended w base e size v n xs w' v') (hv : w.ownsRow base e size v m ys) (he : e ≠ 66) (ho : OpAt w g o) : OpAt w' g o := ap_blk h hv he ho
/-- an append changes its row alone -/
theorem ap_chg {W0 w w' : World} {base : Nat} {e : TypeId} {size : Nat} {v v' : Value} {n m : Nat} {xs ys : List Value} (hv : w.ownsRow base e size v m ys) (h : Appended w base e size v n xs w' v') (hb : Below W0.heap.size W0 w) : Chg (fun k => v.ownBlock = some k) W0 w' :=
  (Below.chg _ hb).trans ⟨h.2.1.os, h.2.1.tape, h.2.1.output, h.2.1.size, fun k hk hs => h.2.1.block k hk (fun e => hs e.symm)⟩
theorem LMid.rows {w0 w : World} {D : Nat} {F : Nat → Prop} {P : Nat} {s s' : Hn} {keys : List H32} {datas : List Bs} {k : Nat} (h : LMid w0 w D F P s s' keys datas k) : ∃ kA kc dA dc lv vals, PlAt w P s.slots s.room (.slice kA keys.length kc) (.slice dA keys.length dc) lv s.cnt s.tag ∧ (w0.heap.size ≤ P ∧ ¬ F P) ∧
    w.ownsRow w0.heap.size 33 32 (.slice kA keys.length kc) keys.length (keys.flatMap encH) ∧ (∀ b, (Value.slice kA keys.length kc).ownBlock = some b → ¬ F b) ∧
    w.ownsRow w0.heap.size 29 1 (.slice dA keys.length dc) keys.length vals ∧ (∀ b, (Value.slice dA keys.length dc).ownBlock = some b → ¬ F b) ∧
    (∀ i (h : i < vals.length) (h' : i < datas.length), SB w0 vals[i] datas[i]) ∧ DB w (fun _ => True) lv s.log := by
  obtain ⟨kv, dv, lv, vals, h1, h2, h4, h5, h6, h7, h8, h9⟩ := h.mem
  obtain ⟨kA, kc, rfl⟩ := row_slice h4
  obtain ⟨dA, dc, rfl⟩ := row_slice h6
  exact ⟨kA, kc, dA, dc, lv, vals, h1, h2, h4, h5, h6, h7, h8, h9⟩
theorem op_chg {S : Nat → Prop} {w w' : World} {g : Nat} {o : Opv} (h : OpAt w g o) (hc : Chg S w w') (hs : ¬ S g) : OpAt w' g o := (hc.block _ (Array.getElem?_eq_some_iff.1 h).1 hs).trans h
theorem own_plc {w w' : World} {base : Nat} {e : TypeId} {size : Nat} {v : Value} {n : Nat} {xs : List Value} {P : Nat} {sl rm : Int} {kv dv lv : Value} {c : Int} {t : H32} (h : w.ownsRow base e size v n xs) (he : e ≠ 62) (hP : PlAt w P sl rm kv dv lv c t) (hc : Chg (fun j => j = P) w w') : w'.ownsRow base e size v n xs := own_chg h hc (fun k hk e' => by
  subst e'
  obtain ⟨_, _, hh⟩ := own_heap h hk
  unfold PlAt at hP
  rw [hP] at hh
  injection hh with hh
  injection hh with _ hh
  exact he hh.symm)
theorem own_apc {w w' : World} {base base' : Nat} {e e' : TypeId} {size size' : Nat} {v v' u : Value} {n n' m : Nat} {xs xs' ys : List Value} (h : w.ownsRow base' e' size' u n' xs') (hap : Appended w base e size v n xs w' v') (hv : w.ownsRow base e size v m ys) (he : e ≠ e') : w'.ownsRow base' e' size' u n' xs' :=
  own_chg h (ap_chg hv hap (Below.refl _ _)) (fun k hk e1 => by
    obtain ⟨_, _, h1⟩ := own_heap h hk
    obtain ⟨_, _, h2⟩ := own_heap hv e1
    rw [h1] at h2
    injection h2 with h2
    injection h2 with _ h2
    exact he h2.symm)
theorem own_isb {w : World} {base : Nat} {e : TypeId} {size : Nat} {v : Value} {n : Nat} {xs : List Value} (h : w.ownsRow base e size v n xs) (he : e ≠ 5) : ∀ k, isBytes w k → ¬ v.ownBlock = some k := fun k ⟨cs, fr, hk⟩ e1 => by
  obtain ⟨_, _, h1⟩ := own_heap h e1
  rw [hk] at h1
  injection h1 with h1
  injection h1 with _ h1
  exact he h1.symm
/-- a row that grew lies where it lay, or in new memory -/
theorem ap_where {w w' : World} {base : Nat} {e : TypeId} {size : Nat} {v v' : Value} {n : Nat} {xs : List Value} (h : Appended w base e size v n xs w' v') {F : Nat → Prop} (hF : ∀ k, F k → k < w.heap.size) (hv : ∀ b, v.ownBlock = some b → ¬ F b) : ∀ b, v'.ownBlock = some b → ¬ F b := fun b hb hf => by
  rcases h.2.2 with ⟨e1, _⟩ | ⟨e1, _⟩
  · exact hv b (e1 ▸ hb) hf
  · rw [e1] at hb
    injection hb with hb
    have := hF b hf
    omega
theorem put_fin {w0 w2 W w9 W4 W5 w10 w' : World} {D : Nat} {F : Nat → Prop} {P : Nat} {s s' : Hn} {keys : List H32} {datas : List Bs} {k : Nat} {kv dv lv kv9 dv10 da : Value} {vals : List Value} {q : H32} {l : Bs} (h : LMid w0 w2 D F P s s' keys datas k)
    (hP2 : PlAt w2 P s.slots s.room kv dv lv s.cnt s.tag) (hPF : w0.heap.size ≤ P ∧ ¬ F P) (hK : w2.ownsRow w0.heap.size 33 32 kv keys.length (keys.flatMap encH)) (hKF : ∀ b, kv.ownBlock = some b → ¬ F b)
    (hD : w2.ownsRow w0.heap.size 29 1 dv keys.length vals) (hDF : ∀ b, dv.ownBlock = some b → ¬ F b) (hV : ∀ i (h : i < vals.length) (h' : i < datas.length), SB w0 vals[i] datas[i]) (hlv : DB w2 (fun _ => True) lv s.log)
    (hbW : Below w2.heap.size w2 W) (hap : Appended W w0.heap.size 33 32 kv (keys.length + 1) (keys.flatMap encH ++ encH q) w9 kv9) (hc4 : Chg (fun j => j = P) w9 W4) (hP4 : PlAt W4 P s.slots s.room kv9 dv lv s.cnt s.tag)
    (hb5 : Below W4.heap.size W4 W5) (hap2 : Appended W5 w0.heap.size 29 1 dv (keys.length + 1) (vals ++ [da]) w10 dv10) (hc' : Chg (fun j => j = P) w10 w') (hP' : PlAt w' P s.slots s.room kv9 dv10 lv s.cnt s.tag)
    (hda : SB w0 da l) (hl : l.length ≤ 1024) (hq : q ∉ keys) (hs' : s' = { s with blobs := updO s.blobs q (some l), n := s.n + 1 }) (hroom : (keys.length : Int) < s.slots) : LInv w0 w' D F P s' (keys ++ [q]) (datas ++ [l]) k := by
  subst hs'
  have hlen : (keys ++ [q]).length = keys.length + 1 := by simp
  have hP9 : PlAt w9 P s.slots s.room kv dv lv s.cnt s.tag := ap_pl hap (own_below hK hbW) (by decide) (pl_bel hP2 hbW)
  have hD9 := own_apc (own_below hD hbW) hap (own_below hK hbW) (by decide)
  have hD4 := own_plc hD9 (by decide) hP9 hc4
  have hD5 := own_below hD4 hb5
  have hK4 := own_plc hap.1 (by decide) hP9 hc4
  have hK5 := own_below hK4 hb5
  have hP5 := pl_bel hP4 hb5
  have hP10 := ap_pl hap2 hD5 (by decide) hP5
  have hK10 := own_apc hK5 hap2 hD5 (by decide)
  have hK' := own_plc hK10 (by decide) hP10 hc'
  have hD' := own_plc hap2.1 (by decide) hP10 hc'
  have hfit : ∀ j, F j → j < w2.heap.size := h.dev.fit
  have hs1 := hbW.size
  have hs2 := hap.2.1.size
  have hs3 := hc4.size
  have hs4 := hb5.size
  let S : Nat → Prop := fun j => j = P ∨ kv.ownBlock = some j ∨ dv.ownBlock = some j
  have hC : Chg S w2 w' := (((Below.chg S hbW).trans ((ap_chg (own_below hK hbW) hap (Below.refl _ _)).mono (fun j _ e => Or.inr (Or.inl e)))).trans (hc4.mono (fun j _ e => Or.inl e))).trans
    (((Below.chg S hb5).trans ((ap_chg hD5 hap2 (Below.refl _ _)).mono (fun j _ e => Or.inr (Or.inr e)))).trans (hc'.mono (fun j _ e => Or.inl e)))
  have hvl : vals.length = keys.length := by simpa using hD.1
  have hdl := h.kd.len
  refine h.fin hC (fun j hj hlt => ?_) ⟨kv9, dv10, lv, vals ++ [da], hP', hPF, ?_, ap_where hap (fun k hk => by have := hfit k hk; omega) hKF, ?_, ap_where hap2 (fun k hk => by have := hfit k hk; omega) hDF, fun i hi hi' => ?_, hlv.chg hC (fun j hj hS => ?_)⟩ ?_ ?_
  · rcases hj with rfl | hj | hj
    · exact ⟨hPF.2, hPF.1, _, _, _, hP2, by decide⟩
    · obtain ⟨c, fr, hh⟩ := own_heap hK hj
      exact ⟨hKF j hj, own_ge hK j hj, _, _, _, hh, by decide⟩
    · obtain ⟨c, fr, hh⟩ := own_heap hD hj
      exact ⟨hDF j hj, own_ge hD j hj, _, _, _, hh, by decide⟩
  · rw [hlen, List.flatMap_append]
    simp only [List.flatMap_cons, List.flatMap_nil, List.append_nil]
    exact hK'
  · rw [hlen]
    exact hD'
  · by_cases hiv : i < vals.length
    · rw [List.getElem_append_left hiv, List.getElem_append_left (by omega)]
      exact hV i hiv (by omega)
    · have : i = vals.length := by simp at hi; omega
      subst this
      rw [List.getElem_append_right (Nat.le_refl _), List.getElem_append_right (by omega)]
      simp only [List.getElem_singleton]
      exact hda
  · rcases hS with rfl | hS | hS
    · exact pl_notbytes hP2 _ hj rfl
    · exact own_isb hK (by decide) _ hj hS
    · exact own_isb hD (by decide) _ hj hS
  · exact h.kd.put q hq l hl
  · exact ⟨h.bd.slots, h.bd.room, h.bd.log, by rw [hlen]; push_cast; omega, h.bd.cnt⟩
theorem own_set {w : World} {base g cap n : Nat} {e : TypeId} {xs : List Value} (h : w.ownsRow base e 1 (.slice (some ⟨g, 0, none⟩) n cap) n xs) (j : Nat) (hj : j < n) (u : Value) : (w.setCell ⟨g, j, none⟩ u).ownsRow base e 1 (.slice (some ⟨g, 0, none⟩) n cap) n (xs.set j u) := by
  refine ⟨by simpa using h.1, ?_⟩
  rcases h.2 with ⟨e, _⟩ | ⟨g', cap', cur, e, hb, hg, h1, h2, h3, h4⟩
  · cases e
  · injection e with e1 e2 e3
    injection e1 with e1
    injection e1 with e1
    subst e1 e3
    refine Or.inr ⟨g, cap, cur.setIfInBounds j u, rfl, hb, setCell_row hg u, h1, h2, by simpa using h3, ?_⟩
    rw [Array.toList_setIfInBounds, List.take_set, h4]
theorem set_fin {w0 w2 w' : World} {D : Nat} {F : Nat → Prop} {P : Nat} {s s' : Hn} {keys : List H32} {datas : List Bs} {k gd cd : Nat} {kv lv da : Value} {vals : List Value} {q : H32} {l : Bs} (h : LMid w0 w2 D F P s s' keys datas k)
    (hP2 : PlAt w2 P s.slots s.room kv (.slice (some ⟨gd, 0, none⟩) keys.length cd) lv s.cnt s.tag) (hPF : w0.heap.size ≤ P ∧ ¬ F P) (hK : w2.ownsRow w0.heap.size 33 32 kv keys.length (keys.flatMap encH)) (hKF : ∀ b, kv.ownBlock = some b → ¬ F b)
    (hD : w2.ownsRow w0.heap.size 29 1 (.slice (some ⟨gd, 0, none⟩) keys.length cd) keys.length vals) (hDF : ∀ b, (Value.slice (some ⟨gd, 0, none⟩) keys.length cd).ownBlock = some b → ¬ F b) (hV : ∀ i (h : i < vals.length) (h' : i < datas.length), SB w0 vals[i] datas[i]) (hlv : DB w2 (fun _ => True) lv s.log)
    (j : Nat) (hj : j < keys.length) (hkj : keys[j] = q) (hc : Chg (fun i => i = gd) w2 w') (hD' : w'.ownsRow w0.heap.size 29 1 (.slice (some ⟨gd, 0, none⟩) keys.length cd) keys.length (vals.set j da))
    (hda : SB w0 da l) (hl : l.length ≤ 1024) (hs' : s' = { s with blobs := updO s.blobs q (some l), n := s.n }) : LInv w0 w' D F P s' keys (datas.set j l) k := by
  subst hs'
  subst hkj
  obtain ⟨c, fr, hh⟩ := own_heap hD (k := gd) rfl
  have hne : ∀ {k : Nat} {c' : Array Value} {t : TypeId} {fr' : Nat × Nat}, w2.heap[k]? = some (.cells c' t fr') → t ≠ 29 → ¬ k = gd := by
    rintro k c' t fr' h1 h2 rfl
    rw [hh] at h1
    injection h1 with h1
    injection h1 with _ h1
    exact h2 h1.symm
  refine h.fin hc (fun i hi hlt => ?_) ⟨kv, .slice (some ⟨gd, 0, none⟩) keys.length cd, lv, vals.set j da, pl_chg hP2 hc (hne hP2 (by decide)), hPF, own_chg hK hc (fun b hb => by obtain ⟨_, _, h1⟩ := own_heap hK hb; exact hne h1 (by decide)), hKF, hD', hDF, fun i hi hi' => ?_, hlv.chg hc (fun b ⟨cs, fr, hb⟩ => hne hb (by decide))⟩ (h.kd.set j hj l hl) ⟨h.bd.slots, h.bd.room, h.bd.log, h.bd.keys, h.bd.cnt⟩
  · subst hi
    exact ⟨hDF _ rfl, own_ge hD _ rfl, _, _, _, hh, by decide⟩
  · by_cases e : j = i
    · subst e
      simp only [List.getElem_set_self]
      exact hda
    · simp only [List.getElem_set_ne e]
      exact hV i (by simpa using hi) (by simpa using hi')
theorem own_cap {w : World} {base n cap size : Nat} {e : TypeId} {A : Option Addr} {xs : List Value} (h : w.ownsRow base e size (.slice A n cap) n xs) : (n : Int) ≤ cap := by
  rcases h.2 with ⟨e, _⟩ | ⟨g', cap', cur, e, _, hg, hn, _⟩
  · injection e with _ e1 e2
    omega
  · injection e with _ _ e
    omega
theorem src_take {w : World} {base g cap n : Nat} {ks : List H32} (h : w.ownsRow base 33 32 (.slice (some ⟨g, 0, none⟩) n cap) n (ks.flatMap encH)) (j : Nat) (hj : j ≤ ks.length) (c : Nat) : Src w 32 (.slice (some ⟨g, 0, none⟩) j c) j ((ks.take j).flatMap encH) := by
  refine ⟨_, c, rfl, by rw [flatH_len, List.length_take]; congr 1; omega, fun i u hi => ⟨_, rfl, ?_⟩⟩
  refine h.cells (g := g) rfl i u ?_
  have hil := (List.getElem?_eq_some_iff.1 hi).1
  rw [← List.take_append_drop j ks, List.flatMap_append, List.getElem?_append_left hil]
  exact hi
theorem src_drop {w : World} {base g cap n : Nat} {ks : List H32} (h : w.ownsRow base 33 32 (.slice (some ⟨g, 0, none⟩) n cap) n (ks.flatMap encH)) (j : Nat) (hj : j + 1 ≤ ks.length) {A : Option Addr} (hA : n - (j + 1) = 0 ∨ A = some ⟨g, (j + 1) * 32, none⟩) (c : Nat) : Src w 32 (.slice A (n - (j + 1)) c) (n - (j + 1)) ((ks.drop (j + 1)).flatMap encH) := by
  have hn : ks.length = n := by have := h.1; rw [flatH_len] at this; omega
  refine ⟨_, c, rfl, by rw [flatH_len, List.length_drop, hn], fun i u hi => ?_⟩
  rcases hA with h0 | rfl
  · have hil := (List.getElem?_eq_some_iff.1 hi).1
    rw [flatH_len, List.length_drop] at hil
    omega
  · refine ⟨_, rfl, ?_⟩
    have e : (ks.flatMap encH)[(j + 1) * 32 + i]? = some u := by
      rw [← List.take_append_drop (j + 1) ks, List.flatMap_append, List.getElem?_append_right (by rw [flatH_len, List.length_take]; omega)]
      rw [← hi]
      congr 1
      rw [flatH_len, List.length_take]
      omega
    have := h.cells (g := g) rfl _ u e
    rw [addr_add, Nat.zero_add] at this
    rw [addr_add]
    exact this
theorem flat_one (ks : List H32) : ∀ u ∈ ks.flatMap encH, u.oneCell' = true := fun u hu => by
  obtain ⟨q, _, hu⟩ := List.mem_flatMap.1 hu
  exact bv_one q.1 u hu
theorem ap_new_ge {w w' : World} {base : Nat} {e : TypeId} {size : Nat} {v v' : Value} {n : Nat} {xs : List Value} {B : Nat} (h : Appended w base e size v n xs w' v') (hB : B ≤ w.heap.size) (hv : ∀ k, v.ownBlock = some k → B ≤ k) : ∀ k, v'.ownBlock = some k → B ≤ k := fun k hk => by
  rcases h.2.2 with ⟨e1, _⟩ | ⟨e1, _⟩
  · exact hv k (e1 ▸ hk)
  · rw [e1] at hk
    injection hk with hk
    omega
theorem src_take1 {w : World} {base g cap n : Nat} {e : TypeId} {xs : List Value} (h : w.ownsRow base e 1 (.slice (some ⟨g, 0, none⟩) n cap) n xs) (j : Nat) (hj : j ≤ n) (c : Nat) : Src w 1 (.slice (some ⟨g, 0, none⟩) j c) j (xs.take j) := by
  have hn : xs.length = n := by simpa using h.1
  refine ⟨_, c, rfl, by rw [List.length_take]; omega, fun i u hi => ⟨_, rfl, h.cells (g := g) rfl i u ?_⟩⟩
  have hil := (List.getElem?_eq_some_iff.1 hi).1
  rw [List.length_take] at hil
  rwa [List.getElem?_take, if_pos (by omega)] at hi
theorem src_drop1 {w : World} {base g cap n : Nat} {e : TypeId} {xs : List Value} (h : w.ownsRow base e 1 (.slice (some ⟨g, 0, none⟩) n cap) n xs) (j : Nat) (hj : j + 1 ≤ n) {A : Option Addr} (hA : n - (j + 1) = 0 ∨ A = some ⟨g, j + 1, none⟩) (c : Nat) : Src w 1 (.slice A (n - (j + 1)) c) (n - (j + 1)) (xs.drop (j + 1)) := by
  have hn : xs.length = n := by simpa using h.1
  refine ⟨_, c, rfl, by rw [List.length_drop]; omega, fun i u hi => ?_⟩
  have hil := (List.getElem?_eq_some_iff.1 hi).1
  rw [List.length_drop] at hil
  rcases hA with h0 | rfl
  · omega
  · refine ⟨_, rfl, ?_⟩
    rw [List.getElem?_drop] at hi
    have := h.cells (g := g) rfl _ u hi
    rw [addr_add, Nat.zero_add] at this
    rw [addr_add]
    exact this
theorem src_one {w0 : World} {vals : List Value} {datas : List Bs} {n : Nat} (hV : ∀ i (h : i < vals.length) (h' : i < datas.length), SB w0 vals[i] datas[i]) (hd : datas.length = n) (hv : vals.length = n) : ∀ u ∈ vals, u.oneCell' = true := fun u hu => by
  obtain ⟨i, hi, rfl⟩ := List.mem_iff_getElem.1 hu
  obtain ⟨A, c, e, _⟩ := hV i hi (by omega)
  rw [e]
  rfl
theorem del_fin {w0 w2 W2 wc w10 w' : World} {D : Nat} {F : Nat → Prop} {P : Nat} {s s' : Hn} {keys : List H32} {datas : List Bs} {k m : Nat} {kv dv lv kv4 dv10 : Value} {vals : List Value} {q : H32} (h : LMid w0 w2 D F P s s' keys datas k)
    (hP2 : PlAt w2 P s.slots s.room kv dv lv s.cnt s.tag) (hPF : w0.heap.size ≤ P ∧ ¬ F P) (hK : w2.ownsRow w0.heap.size 33 32 kv keys.length (keys.flatMap encH))
    (hD : w2.ownsRow w0.heap.size 29 1 dv keys.length vals) (hV : ∀ i (h : i < vals.length) (h' : i < datas.length), SB w0 vals[i] datas[i]) (hlv : DB w2 (fun _ => True) lv s.log)
    (j : Nat) (hj : j < keys.length) (hkj : keys[j] = q) (hbW : Below w2.heap.size w2 W2) (hC4 : Chg (fun j => j = P) W2 wc) (hP4 : PlAt wc P s.slots s.room kv4 dv lv s.cnt s.tag)
    (hK4 : wc.ownsRow w0.heap.size 33 32 kv4 (j + (keys.length - (j + 1))) ((keys.take j).flatMap encH ++ (keys.drop (j + 1)).flatMap encH)) (hK4b : ∀ b, kv4.ownBlock = some b → W2.heap.size ≤ b)
    (hb10 : Below wc.heap.size wc w10) (hD10 : w10.ownsRow w0.heap.size 29 1 dv10 (j + (keys.length - (j + 1))) (vals.take j ++ vals.drop (j + 1))) (hD10b : ∀ b, dv10.ownBlock = some b → wc.heap.size ≤ b)
    (hc' : Chg (fun j => j = P) w10 w') (hP' : PlAt w' P s.slots s.room kv4 dv10 lv s.cnt s.tag) (hs' : s' = { s with blobs := updO s.blobs q none, n := s.n - 1 }) : LInv w0 w' D F P s' (keys.take j ++ keys.drop (j + 1)) (datas.take j ++ datas.drop (j + 1)) k := by
  subst hs'
  subst hkj
  have hfit : ∀ j, F j → j < w2.heap.size := h.dev.fit
  have hs1 := hbW.size
  have hs2 := hC4.size
  have hlen : (keys.take j ++ keys.drop (j + 1)).length = j + (keys.length - (j + 1)) := by simp; omega
  have hC : Chg (fun j => j = P) w2 w' := (((Below.chg _ hbW).trans hC4).trans (Below.chg _ hb10)).trans hc'
  have hP10 := pl_bel hP4 hb10
  have hvl : vals.length = keys.length := by simpa using hD.1
  have hdl := h.kd.len
  refine h.fin hC (fun i hi hlt => ?_) ⟨kv4, dv10, lv, vals.take j ++ vals.drop (j + 1), hP', hPF, ?_, fun b hb hf => ?_, ?_, fun b hb hf => ?_, fun i hi hi' => ?_, hlv.chg hC (pl_notbytes hP2)⟩ (h.kd.del j hj) ⟨h.bd.slots, h.bd.room, h.bd.log, by rw [hlen]; have := h.bd.keys; show ((_ : Nat) : Int) ≤ s.slots; omega, h.bd.cnt⟩
  · subst hi
    exact ⟨hPF.2, hPF.1, _, _, _, hP2, by decide⟩
  · rw [hlen, List.flatMap_append]
    exact own_plc (own_below hK4 hb10) (by decide) hP10 hc'
  · have := hK4b b hb
    have := hfit b hf
    omega
  · rw [hlen]
    exact own_plc hD10 (by decide) hP10 hc'
  · have := hD10b b hb
    have := hfit b hf
    omega
  · obtain ⟨a, ha, -, e, ea⟩ := getElem_cut vals j i (by omega) hi
    obtain ⟨a', ha', -, e', ea'⟩ := getElem_cut datas j i (by omega) hi'
    have : a' = a := by rw [ea, ea']
    subst this
    rw [e, e']
    exact hV a' ha ha'
/-- where a row goes on behind n -/
def cutK (g c n : Nat) : Option Addr := if c = n then some ⟨g, 0, none⟩ else some ⟨g, n * 32, none⟩
theorem cutK_eq (g c n : Nat) : (if c = n then some (⟨g, 0, none⟩ : Addr) else some ⟨g, n * 32, none⟩) = cutK g c n := rfl
def cutD (g c n : Nat) : Option Addr := if c = n then some ⟨g, 0, none⟩ else some ⟨g, n, none⟩
theorem cutD_eq (g c n : Nat) : (if c = n then some (⟨g, 0, none⟩ : Addr) else some ⟨g, n, none⟩) = cutD g c n := rfl
theorem cutK_is {g c n l : Nat} (h : l ≤ c) (hn : n ≤ l) : l - n = 0 ∨ cutK g c n = some ⟨g, n * 32, none⟩ := by
  unfold cutK
  by_cases e : c = n
  · left; omega
  · right; rw [if_neg e]
theorem cutD_is {g c n l : Nat} (h : l ≤ c) (hn : n ≤ l) : l - n = 0 ∨ cutD g c n = some ⟨g, n, none⟩ := by
  unfold cutD
  by_cases e : c = n
  · left; omega
  · right; rw [if_neg e]
end Go.Proofs.Ytcbglojjbgenlaa
