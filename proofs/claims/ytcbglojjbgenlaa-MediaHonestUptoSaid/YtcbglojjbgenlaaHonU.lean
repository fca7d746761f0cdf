/- The calls of a device that is a plain thing: all but List. -/
import Derived.Test.YtcbglojjbgenlaaHnE
namespace Go.Proofs.Ytcbglojjbgenlaa
open Go.RowKit Go.MapL Go.ChangeMaps Go.MapKept
set_option linter.unusedSimpArgs false
set_option linter.unusedVariables false

variable {w : World} {D : Nat} {F : Nat → Prop} {s : Hn} {k : Nat}

theorem sb_zero (W : World) : SB W (.slice none 0 0) [] := SB.nil W
theorem get_p {q : H32} {l : Bs} (h : Plain w D F s k) (hk : k < 1099511627776) (hl : s.blobs q = some l) (hls : l.length ≤ 1048576) :
    Calls Try.prog 8 #[.pointer (some ⟨D, 0, none⟩), hv q] w fun e w' => ∃ A c, e = .returned (.tuple #[.slice A l.length c, .int .i64 0]) ∧ SB w' (.slice A l.length c) l ∧ After w w' D F s (k + 1) := by
  obtain ⟨d, hA, hdn, rfl, hf⟩ := h
  refine (get_live hA hdn hl hls (hf.lt hk).1).mono ?_
  rintro e w' ⟨A, c, rfl, hdb, hA', hby, hc⟩
  exact ⟨A, c, rfl, hdb.1, Live.after ⟨hA', hby, hc⟩ hdn rfl (hf.more (by simp) (by simp) (by simp))⟩
theorem read_p (h : Plain w D F s k) (hk : k < 1099511627776) :
    Calls Try.prog 10 #[.pointer (some ⟨D, 0, none⟩)] w fun e w' => ∃ A c, e = .returned (.tuple #[.slice A s.log.length c, .int .i64 0]) ∧ SB w' (.slice A s.log.length c) s.log ∧ After w w' D F s (k + 1) := by
  obtain ⟨d, hA, hdn, rfl, hf⟩ := h
  refine (read_live hA hdn (hf.lt hk).1).mono ?_
  rintro e w' ⟨A, c, rfl, hdb, hA', hby, hc⟩
  exact ⟨A, c, rfl, hdb.1, Live.after ⟨hA', hby, hc⟩ hdn rfl (hf.more (by simp) (by simp) (by simp))⟩
theorem get_no_p {q : H32} (h : Plain w D F s k) (hk : k < 1099511627776) (hl : s.blobs q = none) :
    Calls Try.prog 8 #[.pointer (some ⟨D, 0, none⟩), hv q] w fun e w' => ∃ A c, e = .returned (.tuple #[.slice A 0 c, .int .i64 81]) ∧ After w w' D F s (k + 1) := by
  obtain ⟨d, hA, hdn, rfl, hf⟩ := h
  have hb : Below w.heap.size w (w.alloc (.cells (q.1.map bv).toArray 33)) := by (repeat (first | exact Below.refl _ _ | refine bg_al ?_ | refine bg_gr ?_ | refine bg_drn ?_ | refine bg_dr ?_ | assumption))
  have hF0 : ∀ j, F j → j < (w.alloc (.cells (q.1.map bv).toArray 33)).heap.size := fun j hj => by have := hA.fit j hj; simp; omega
  refine (get_walk w D q 81 _ [] (run_gen_no (hA.below hb) hdn 1 0 0 q zero32 _ _ { d with acc := d.acc ++ [(1, 0, false)] } 81 (by decide) (fun W hbW hAW hd => acc_get_no hAW hd hl ⟨(hf.lt hk).1, (hf.lt hk).2.1⟩)) (fun t W h => by rw [h.2]; exact sb_zero W) (by simp)).mono ?_
  rintro e w' ⟨A, c, rfl, t, w1, ⟨hL, -⟩, hb1, -⟩
  exact ⟨A, c, rfl, ((hL.post hb1 hF0).pre hb hA.fit).after hdn rfl (hf.more (by simp) (by simp) (by simp))⟩
theorem delete_p {q : H32} {l : Bs} (h : Plain w D F s k) (hk : k < 1099511627776) (hl : s.blobs q = some l) :
    Calls Try.prog 13 #[.pointer (some ⟨D, 0, none⟩), hv q] w fun e w' => e = .returned (.int .i64 0) ∧ After w w' D F { s with blobs := updO s.blobs q none, n := s.n - 1 } (k + 1) := by
  obtain ⟨d, hA, hdn, rfl, hf⟩ := h
  have hb : Below w.heap.size w (w.alloc (.cells (q.1.map bv).toArray 33)) := by (repeat (first | exact Below.refl _ _ | refine bg_al ?_ | refine bg_gr ?_ | refine bg_drn ?_ | refine bg_dr ?_ | assumption))
  have hF0 : ∀ j, F j → j < (w.alloc (.cells (q.1.map bv).toArray 33)).heap.size := fun j hj => by have := hA.fit j hj; simp; omega
  refine (delete_walk w D q 0 _ (run_gen_ok (hA.below hb) hdn 3 0 0 q zero32 _ _ { delD d q with acc := d.acc ++ [(3, 0, true)], past := d.past ++ [⟨noteK d q, 1, d.log⟩] } (fun _ _ => True) (fun W hbW hAW hd => (acc_delete2 hAW hd hl ⟨(hf.lt hk).1, (hf.lt hk).2.1⟩).mono ?_) (fun _ _ _ _ _ => trivial))).mono ?_
  · rintro e w' ⟨rfl, h1, h2, h3⟩
    exact ⟨rfl, h1, ⟨⟨3, q, none, 0, 0, none, 0, 0, 0, 0, zero32⟩, h2, trivial⟩, h3⟩
  · rintro e w' ⟨rfl, t, w1, ⟨hL, -⟩, hb1⟩
    exact ⟨rfl, ((hL.post hb1 hF0).pre hb hA.fit).after hdn rfl (hf.more (by simp) (by simp) (fun q => by simp [delD]))⟩
theorem delete_no_p {q : H32} (h : Plain w D F s k) (hk : k < 1099511627776) (hl : s.blobs q = none) :
    Calls Try.prog 13 #[.pointer (some ⟨D, 0, none⟩), hv q] w fun e w' => e = .returned (.int .i64 81) ∧ After w w' D F s (k + 1) := by
  obtain ⟨d, hA, hdn, rfl, hf⟩ := h
  have hb : Below w.heap.size w (w.alloc (.cells (q.1.map bv).toArray 33)) := by (repeat (first | exact Below.refl _ _ | refine bg_al ?_ | refine bg_gr ?_ | refine bg_drn ?_ | refine bg_dr ?_ | assumption))
  have hF0 : ∀ j, F j → j < (w.alloc (.cells (q.1.map bv).toArray 33)).heap.size := fun j hj => by have := hA.fit j hj; simp; omega
  refine (delete_walk w D q 81 _ (run_gen_no (hA.below hb) hdn 3 0 0 q zero32 _ _ { d with acc := d.acc ++ [(3, 0, false)] } 81 (by decide) (fun W hbW hAW hd => acc_delete_no hAW hd hl ⟨(hf.lt hk).1, (hf.lt hk).2.1⟩))).mono ?_
  rintro e w' ⟨rfl, t, w1, ⟨hL, -⟩, hb1⟩
  exact ⟨rfl, ((hL.post hb1 hF0).pre hb hA.fit).after hdn rfl (hf.more (by simp) (by simp) (by simp))⟩
theorem trim_p {n : Nat} (h : Plain w D F s k) (hk : k < 1099511627776) (hn : n ≤ s.log.length) :
    Calls Try.prog 15 #[.pointer (some ⟨D, 0, none⟩), .int .i64 n] w fun e w' => e = .returned (.int .i64 0) ∧ After w w' D F { s with log := s.log.drop n } (k + 1) := by
  obtain ⟨d, hA, hdn, rfl, hf⟩ := h
  refine (trim_walk w D n 0 _ (run_gen_ok hA hdn 7 n 0 zero32 zero32 _ _ { d with log := d.log.drop n, acc := d.acc ++ [(7, 0, true)], past := pastL d { d with log := d.log.drop n } } (fun _ _ => True) (fun W hbW hAW hd => (acc_trim2 hAW hd hn ⟨(hf.lt hk).1, (hf.lt hk).2.1⟩).mono ?_) (fun _ _ _ _ _ => trivial))).mono ?_
  · rintro e w' ⟨rfl, h1, h2, h3⟩
    exact ⟨rfl, h1, ⟨⟨7, zero32, none, 0, 0, none, 0, 0, n, 0, zero32⟩, h2, trivial⟩, h3⟩
  · rintro e w' ⟨rfl, t, w1, ⟨hL, -⟩, hb1⟩
    exact ⟨rfl, (hL.post hb1 hA.fit).after hdn rfl (hf.more (by simp) (pastL_len _ _) (fun q => by simp))⟩
theorem trim_no_p {n : Int} (h : Plain w D F s k) (hk : k < 1099511627776) (hn : n < 0 ∨ (s.log.length : Int) < n) :
    Calls Try.prog 15 #[.pointer (some ⟨D, 0, none⟩), .int .i64 n] w fun e w' => e = .returned (.int .i64 83) ∧ After w w' D F s (k + 1) := by
  obtain ⟨d, hA, hdn, rfl, hf⟩ := h
  refine (trim_walk w D n 83 _ (run_gen_no hA hdn 7 n 0 zero32 zero32 _ _ { d with acc := d.acc ++ [(7, 0, false)] } 83 (by decide) (fun W hbW hAW hd => acc_trim_no hAW hd hn ⟨(hf.lt hk).1, (hf.lt hk).2.1⟩))).mono ?_
  rintro e w' ⟨rfl, t, w1, ⟨hL, -⟩, hb1⟩
  exact ⟨rfl, (hL.post hb1 hA.fit).after hdn rfl (hf.more (by simp) (by simp) (by simp))⟩
theorem cut_p {n : Nat} (h : Plain w D F s k) (hk : k < 1099511627776) (hn : n ≤ s.log.length) :
    Calls Try.prog 16 #[.pointer (some ⟨D, 0, none⟩), .int .i64 n] w fun e w' => e = .returned (.int .i64 0) ∧ After w w' D F { s with log := s.log.take n } (k + 1) := by
  obtain ⟨d, hA, hdn, rfl, hf⟩ := h
  refine (cut_walk w D n 0 _ (run_gen_ok hA hdn 8 n 0 zero32 zero32 _ _ { d with log := d.log.take n, acc := d.acc ++ [(8, 0, true)], past := pastL d { d with log := d.log.take n } } (fun _ _ => True) (fun W hbW hAW hd => (acc_cut2 hAW hd hn ⟨(hf.lt hk).1, (hf.lt hk).2.1⟩).mono ?_) (fun _ _ _ _ _ => trivial))).mono ?_
  · rintro e w' ⟨rfl, h1, h2, h3⟩
    exact ⟨rfl, h1, ⟨⟨8, zero32, none, 0, 0, none, 0, 0, n, 0, zero32⟩, h2, trivial⟩, h3⟩
  · rintro e w' ⟨rfl, t, w1, ⟨hL, -⟩, hb1⟩
    exact ⟨rfl, (hL.post hb1 hA.fit).after hdn rfl (hf.more (by simp) (pastL_len _ _) (fun q => by simp))⟩
theorem cut_no_p {n : Int} (h : Plain w D F s k) (hk : k < 1099511627776) (hn : n < 0 ∨ (s.log.length : Int) < n) :
    Calls Try.prog 16 #[.pointer (some ⟨D, 0, none⟩), .int .i64 n] w fun e w' => e = .returned (.int .i64 83) ∧ After w w' D F s (k + 1) := by
  obtain ⟨d, hA, hdn, rfl, hf⟩ := h
  refine (cut_walk w D n 83 _ (run_gen_no hA hdn 8 n 0 zero32 zero32 _ _ { d with acc := d.acc ++ [(8, 0, false)] } 83 (by decide) (fun W hbW hAW hd => acc_cut_no hAW hd hn ⟨(hf.lt hk).1, (hf.lt hk).2.1⟩))).mono ?_
  rintro e w' ⟨rfl, t, w1, ⟨hL, -⟩, hb1⟩
  exact ⟨rfl, (hL.post hb1 hA.fit).after hdn rfl (hf.more (by simp) (by simp) (by simp))⟩
theorem own_notdev {W : World} {base : Nat} {v : Value} {l : Bs} {D : Nat} {F : Nat → Prop} {d : Dv} (ho : OwnB W base v l) (hA : Awake W D F d) : ∀ a, vBlock v = some a → a ≠ D := by
  rintro a ha rfl
  obtain ⟨f, hD, -⟩ := hA.dev
  obtain ⟨-, -, cs, fr, hk⟩ := own_vBlock ho a ha
  unfold DevAt at hD
  rw [hD] at hk
  injection hk with hk
  injection hk with _ hk
  exact absurd hk (by decide)
theorem append_p {v : Value} {ld : Bs} (h : Plain w D F s k) (hk : k < 1099511627776) (hv : SB w v ld) (hroom : (s.log.length : Int) + ld.length ≤ s.room) (hr2 : s.room ≤ 1048576) :
    Calls Try.prog 14 #[.pointer (some ⟨D, 0, none⟩), v] w fun e w' => e = .returned (.int .i64 0) ∧ After w w' D F { s with log := s.log ++ ld } (k + 1) := by
  obtain ⟨d, hA, hdn, rfl, hf⟩ := h
  refine (append_walk w D v ld 0 (fun _ w' => Live w w' D F { d with log := d.log ++ ld, acc := d.acc ++ [(6, 0, true)], past := pastL d { d with log := d.log ++ ld } }) hv (by have := hA.low; have : (hnOf d).room = d.room := rfl; have : (hnOf d).log = d.log := rfl; omega) (fun W A c hb ho => (run_gen_ok (hA.below hb) hdn 6 0 0 zero32 zero32 _ _ { d with log := d.log ++ ld, acc := d.acc ++ [(6, 0, true)], past := pastL d { d with log := d.log ++ ld } } (fun _ _ => True) (fun W2 hbW hAW hd => (acc_append2 hAW hd ld (ho.sb.below hbW) (own_notdev (ho.below hbW) hAW) hroom hr2 ⟨(hf.lt hk).1, (hf.lt hk).2.1⟩).mono ?_) (fun _ _ _ _ _ => trivial)).mono ?_)).mono ?_
  · rintro e w' ⟨rfl, h1, h2, h3⟩
    exact ⟨rfl, h1, ⟨⟨6, zero32, A, ld.length, c, none, 0, 0, 0, 0, zero32⟩, h2, trivial⟩, h3⟩
  · rintro t w' ⟨hL, -⟩
    exact hL.pre hb hA.fit
  · rintro e w' ⟨rfl, t, w1, hL, hb1⟩
    exact ⟨rfl, (hL.post hb1 hA.fit).after hdn rfl (hf.more (by simp) (pastL_len _ _) (fun q => by simp))⟩
theorem append_no_p {v : Value} {ld : Bs} (h : Plain w D F s k) (hk : k < 1099511627776) (hv : SB w v ld) (hl : ld.length ≤ 1048576 * 1048575) (hroom : s.room < (s.log.length : Int) + ld.length) :
    Calls Try.prog 14 #[.pointer (some ⟨D, 0, none⟩), v] w fun e w' => e = .returned (.int .i64 6) ∧ After w w' D F s (k + 1) := by
  obtain ⟨d, hA, hdn, rfl, hf⟩ := h
  refine (append_walk w D v ld 6 (fun _ w' => Live w w' D F { d with acc := d.acc ++ [(6, 0, false)] }) hv (by omega) (fun W A c hb ho => (run_gen_no (hA.below hb) hdn 6 0 0 zero32 zero32 _ _ { d with acc := d.acc ++ [(6, 0, false)] } 6 (by decide) (fun W2 hbW hAW hd => acc_append_no hAW hd hl hroom ⟨(hf.lt hk).1, (hf.lt hk).2.1⟩)).mono ?_)).mono ?_
  · rintro t w' ⟨hL, -⟩
    exact hL.pre hb hA.fit
  · rintro e w' ⟨rfl, t, w1, hL, hb1⟩
    exact ⟨rfl, (hL.post hb1 hA.fit).after hdn rfl (hf.more (by simp) (by simp) (fun q => by simp))⟩
/-- an access told at a block of the call's own -/
theorem live_acc {w W w' : World} {D X : Nat} {F : Nat → Prop} {F2 : Nat → Prop} {d' : Dv} (hF : ∀ k, F k → k < w.heap.size) (hb : Below w.heap.size w W) (hX : w.heap.size ≤ X) (hF2 : ∀ k, F2 k → F k ∨ (w.heap.size ≤ k ∧ k < W.heap.size)) (hA : Awake w' D (Grown F2 W w') d') (hc : Chg (fun k => (F2 k ∨ k = X) ∧ ¬ isBytes W k) W w') : Live w w' D F d' := by
  have hsz := hb.size
  have hsz2 := hc.size
  refine ⟨hA.mono (fun k hk => ?_) (fun k hk => ?_), (Byk.below hb).trans (Byk.of hc (fun k hk => hk.2)), ((Below.chg (fun k => F k ∨ w.heap.size ≤ k) hb).trans (hc.mono (fun k _ hk => ?_))).mono (fun k hk h => h.elim id (fun h => by omega))⟩
  · rcases hk with hk | hk
    · rcases hF2 k hk with h | h
      · exact Or.inl h
      · exact Or.inr ⟨h.1, by omega⟩
    · exact Or.inr ⟨by omega, hk.2⟩
  · rcases hk with hk | hk
    · have := hF k hk; omega
    · exact hk.2
  · rcases hk.1 with h | h
    · rcases hF2 k h with h | h
      · exact Or.inl h
      · exact Or.inr h.1
    · exact Or.inr (by omega)
theorem setreg_p {c : Int} {t : H32} (h : Plain w D F s k) (hk : k < 1099511627776) (h1 : 1 ≤ c) (h2 : c ≤ 1099511627776) (hnew : s.cnt < c) :
    Calls Try.prog 17 #[.pointer (some ⟨D, 0, none⟩), .agg (regC c t).toArray] w fun e w' => e = .returned (.int .i64 0) ∧ After w w' D F { s with cnt := c, tag := t } (k + 1) := by
  obtain ⟨d, hA, hdn, rfl, hf⟩ := h
  obtain ⟨f, hD, hfd⟩ := hA.dev
  refine setreg_walk w D f hD (hfd.trans hdn) c t h1 h2 0 _ (fun W X hb hX hd => (acc_store2 (hA.below hb) hd hnew ⟨(hf.lt hk).1, (hf.lt hk).2.1⟩).mono ?_)
  rintro e w' ⟨rfl, h1, h2, h3⟩
  exact ⟨rfl, (live_acc hA.fit hb hX (fun k hk => Or.inl hk) h1 h3).after hdn rfl (hf.more (by simp) (by simp) (by simp))⟩
theorem setreg_old_p {c : Int} {t : H32} (h : Plain w D F s k) (hk : k < 1099511627776) (h1 : 1 ≤ c) (h2 : c ≤ 1099511627776) (hold : c ≤ s.cnt) :
    Calls Try.prog 17 #[.pointer (some ⟨D, 0, none⟩), .agg (regC c t).toArray] w fun e w' => e = .returned (.int .i64 82) ∧ After w w' D F s (k + 1) := by
  obtain ⟨d, hA, hdn, rfl, hf⟩ := h
  obtain ⟨f, hD, hfd⟩ := hA.dev
  refine setreg_walk w D f hD (hfd.trans hdn) c t h1 h2 82 _ (fun W X hb hX hd => (acc_store_no (hA.below hb) hd hold ⟨(hf.lt hk).1, (hf.lt hk).2.1⟩).mono ?_)
  rintro e w' ⟨rfl, h1, h2, h3⟩
  exact ⟨rfl, (live_acc hA.fit hb hX (fun k hk => Or.inl hk) h1 h3).after hdn rfl (hf.more (by simp) (by simp) (by simp))⟩
theorem after_below {w' : World} (h : Plain w D F s k) (hb : Below w.heap.size w w') : After w w' D F s (k + 1) := by
  obtain ⟨d, hA, hdn, rfl, hf⟩ := h
  exact ⟨⟨d, (hA.below hb).mono (fun _ h => Or.inl h) (fun k hk => hk.elim (fun hk => Nat.lt_of_lt_of_le (hA.fit k hk) hb.size) (fun hk => hk.2)), hdn, rfl, hf.more (by simp) (by simp) (by simp)⟩, Byk.below hb, Below.chg F hb⟩
theorem setreg_bad_p {c : Int} {t : H32} (h : Plain w D F s k) (hc : c < 1 ∨ 1099511627776 < c) :
    Calls Try.prog 17 #[.pointer (some ⟨D, 0, none⟩), .agg (regC c t).toArray] w fun e w' => e = .returned (.int .i64 2) ∧ After w w' D F s (k + 1) := by
  have h' := h
  obtain ⟨d, hA, hdn, rfl, hf⟩ := h
  obtain ⟨f, hD, hfd⟩ := hA.dev
  refine (setreg_bad w D f hD (hfd.trans hdn) c t hc).mono ?_
  rintro e w' ⟨rfl, hb⟩
  exact ⟨rfl, after_below h' hb⟩
theorem put_long_p {q : H32} {v : Value} {l : Bs} (h : Plain w D F s k) (hvb : SB w v l) (hl : 1024 < l.length) :
    Calls Try.prog 12 #[.pointer (some ⟨D, 0, none⟩), hv q, v] w fun e w' => e = .returned (.int .i64 2) ∧ After w w' D F s (k + 1) := by
  have h' := h
  obtain ⟨d, hA, hdn, rfl, hf⟩ := h
  obtain ⟨f, hD, hfd⟩ := hA.dev
  refine (put_long w D f hD (hfd.trans hdn) q v l hvb hl).mono ?_
  rintro e w' ⟨rfl, hb⟩
  exact ⟨rfl, after_below h' hb⟩
theorem kept_acc {w W w' : World} {X : Nat} {F F2 : Nat → Prop} (hF : ∀ k, F k → k < w.heap.size) (hF2 : ∀ k, F2 k → F k ∨ (w.heap.size ≤ k ∧ isBytes W k)) (hc : Chg (fun k => (F2 k ∨ k = X) ∧ ¬ isBytes W k) W w') : ∀ k, w.heap.size ≤ k → k < W.heap.size → k ≠ X → ¬ isBytes W k → w'.heap[k]? = W.heap[k]? :=
  fun k h1 h2 h3 h4 => hc.block k h2 (by
    rintro ⟨h | h, -⟩
    · rcases hF2 k h with h | h
      · have := hF k h; omega
      · exact h4 h.2
    · exact h3 h)
theorem put_p {q : H32} {v : Value} {l : Bs} (h : Plain w D F s k) (hk : k < 1099511627776) (hv0 : SB w v l) (hl : l.length ≤ 1024) (hroom : (s.blobs q).isSome = true ∨ (s.n : Int) < s.slots) :
    Calls Try.prog 12 #[.pointer (some ⟨D, 0, none⟩), hv q, v] w fun e w' => e = .returned (.int .i64 0) ∧ After w w' D F { s with blobs := updO s.blobs q (some l), n := if (s.blobs q).isSome then s.n else s.n + 1 } (k + 1) := by
  obtain ⟨d, hA, hdn, rfl, hf⟩ := h
  obtain ⟨f, hD, hfd⟩ := hA.dev
  refine put_walk w D f hD (hfd.trans hdn) q v l hv0 hl 0 _ (fun W X A c hb hX ho hd => (acc_put2 ((hA.below hb).mono (F' := fun k => F k ∨ (w.heap.size ≤ k ∧ isBytes W k)) (fun k hk => Or.inl hk) (fun k hk => hk.elim (fun hk => Nat.lt_of_lt_of_le (hA.fit k hk) hb.size) (fun ⟨_, cs, fr, hk⟩ => (Array.getElem?_eq_some_iff.1 hk).1))) hd
    ⟨ho.sb, fun k hk => by obtain ⟨h1, h2, h3⟩ := own_vBlock ho k hk; exact ⟨Or.inr ⟨h1, h3⟩, h3⟩⟩ hroom (hf.lt hk)).mono ?_)
  rintro e w' ⟨rfl, h1, h2, h3⟩
  refine ⟨rfl, (live_acc hA.fit hb hX (fun k hk => hk.imp id (fun ⟨h1, cs, fr, h2⟩ => ⟨h1, (Array.getElem?_eq_some_iff.1 h2).1⟩)) h1 h3).after hdn ?_ (hf.more (by simp) (pastK_len _ _ _) (fun q' => ?_)), kept_acc hA.fit (fun k hk => hk) h3⟩
  · simp [hnOf, putD]
    congr
  · simp only [putD, updL]
    split
    · next e => subst e; simp
    · simp
theorem put_full_p {q : H32} {v : Value} {l : Bs} (h : Plain w D F s k) (hk : k < 1099511627776) (hv0 : SB w v l) (hl : l.length ≤ 1024) (hno : s.blobs q = none) (hfull : s.slots ≤ (s.n : Int)) :
    Calls Try.prog 12 #[.pointer (some ⟨D, 0, none⟩), hv q, v] w fun e w' => e = .returned (.int .i64 6) ∧ After w w' D F s (k + 1) := by
  obtain ⟨d, hA, hdn, rfl, hf⟩ := h
  obtain ⟨f, hD, hfd⟩ := hA.dev
  refine put_walk w D f hD (hfd.trans hdn) q v l hv0 hl 6 _ (fun W X A c hb hX ho hd => (acc_put_no (hA.below hb) hd hno hfull ⟨(hf.lt hk).1, (hf.lt hk).2.1⟩).mono ?_)
  rintro e w' ⟨rfl, h1, h2, h3⟩
  exact ⟨rfl, (live_acc hA.fit hb hX (fun k hk => Or.inl hk) h1 h3).after hdn rfl (hf.more (by simp) (by simp) (by simp)), kept_acc hA.fit (fun k hk => Or.inl hk) h3⟩
/-- writes to a block of the call's own, behind a call -/
theorem Live.own {w w0 w1 w' : World} {d' : Dv} {X : Nat} (h : Live w0 w1 D F d') (hb : Below w.heap.size w w0) (hF : ∀ k, F k → k < w.heap.size) (hX : w.heap.size ≤ X) (hXF : X < w0.heap.size) (hc : Chg (fun k => k = X) w1 w') (ht : ∃ c t fr, w1.heap[X]? = some (.cells c t fr) ∧ t ≠ 5) : Live w w' D F d' := by
  have hA1 := h.1.away hc (fun k hk _ => by
    subst hk
    refine ⟨fun hg => ?_, ht⟩
    rcases hg with hg | hg
    · have := hF _ hg; omega
    · omega)
  have hs := hb.size
  have hs2 := hc.size
  have hs1 := h.2.1.size
  refine ⟨hA1.mono (fun k hk => ?_) (fun k hk => ?_), ((Byk.below hb).trans h.2.1).trans (Byk.of hc (fun k hk hy => ?_)), ((Below.chg (fun k => F k ∨ w.heap.size ≤ k) hb).trans ((h.2.2.mono (fun k _ h => Or.inl h)).trans (hc.mono (fun k _ e => Or.inr (by omega))))).mono (fun k hk h => h.elim id (fun h => by omega))⟩
  · rcases hk with hk | hk
    · exact Or.inl hk
    · exact Or.inr ⟨by omega, by omega⟩
  · rcases hk with hk | hk
    · have := hF k hk; omega
    · exact hk.2
  · subst hk
    obtain ⟨cs, fr, hy⟩ := hy
    obtain ⟨c, t, fr', e, ht⟩ := ht
    rw [hy] at e
    injection e with e
    injection e with _ e
    exact ht e.symm
theorem reg_p (h : Plain w D F s k) (hk : k < 1099511627776) :
    Calls Try.prog 11 #[.pointer (some ⟨D, 0, none⟩)] w fun e w' => e = .returned (.tuple #[.agg (regC s.cnt s.tag).toArray, .int .i64 0]) ∧ After w w' D F s (k + 1) := by
  obtain ⟨d, hA, hdn, rfl, hf⟩ := h
  have hb : Below w.heap.size w (w.alloc (.cells (regC 0 zero32).toArray 39)) := by (repeat (first | exact Below.refl _ _ | refine bg_al ?_ | refine bg_gr ?_ | refine bg_drn ?_ | refine bg_dr ?_ | assumption))
  have hbox : ∀ W, Chg F (w.alloc (.cells (regC 0 zero32).toArray 39)) W → W.heap[w.heap.size]? = some (.cells (regC 0 zero32).toArray 39 (0, 0)) := fun W hc =>
    (hc.block _ (by simp) (fun h => by have := hA.fit _ h; omega)).trans (heap_alloc_last _ _)
  refine (reg_walk w D 0 (fun t W => Live (w.alloc (.cells (regC 0 zero32).toArray 39)) W D F { d with acc := d.acc ++ [(9, 0, true)] } ∧ t.cnt = d.cnt ∧ t.tag = d.tag) (run_gen_ok (hA.below hb) hdn 9 0 0 zero32 zero32 _ _ { d with acc := d.acc ++ [(9, 0, true)] } (fun t _ => t.cnt = d.cnt ∧ t.tag = d.tag) (fun W hbW hAW hd => (acc_load2 hAW hd ⟨(hf.lt hk).1, (hf.lt hk).2.1⟩).mono ?_) (fun _ _ _ h _ => h)) (fun t W h => hbox W h.1.2.2)).mono ?_
  · rintro e w' ⟨rfl, h1, h2, h3⟩
    exact ⟨rfl, h1, ⟨⟨9, zero32, none, 0, 0, none, 0, 0, 0, d.cnt, d.tag⟩, h2, rfl, rfl⟩, h3⟩
  · rintro e w' ⟨t, w1, rfl, ⟨hL, h1, h2⟩, hc⟩
    rw [h1, h2]
    exact ⟨rfl, (hL.own hb hA.fit (Nat.le_refl _) (by simp) hc ⟨_, _, _, hbox w1 hL.2.2, by decide⟩).after hdn rfl (hf.more (by simp) (by simp) (by simp))⟩
theorem down_p (h : Plain w D F s k) : Calls Try.prog 19 #[.pointer (some ⟨D, 0, none⟩)] w fun e w' => e = .returned (.bool false) ∧ w' = w := by
  obtain ⟨d, hA, hdn, rfl, hf⟩ := h
  obtain ⟨f, hD, hfd⟩ := hA.dev
  obtain ⟨-, -, -, -, -, hc37, -⟩ := dev_c hD
  rw [hfd.trans hdn] at hc37
  clear hf hA hdn hfd hD
  go_enter Try.func19, Try.ntmps19
  go_wp2
  go_ret
  exact ⟨rfl, rfl⟩
end Go.Proofs.Ytcbglojjbgenlaa
