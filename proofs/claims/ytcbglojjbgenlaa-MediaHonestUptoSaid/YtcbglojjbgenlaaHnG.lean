/- List: does, access, call. Rows of blobs. -/
import Derived.Test.YtcbglojjbgenlaaHnF
import Derived.Test.YtcbglojjbgenlaaHonU
import Derived.Test.YtcbglojjbgenlaaHnE
namespace Go.Proofs.Ytcbglojjbgenlaa
open Go.RowKit Go.MapL Go.ChangeMaps Go.MapKept
set_option linter.unusedSimpArgs false
set_option linter.unusedVariables false
attribute [local go_sem] size_gr cell_gr frozen_gr setCell_gr gr_drew gr_drewN lt_k lt_kc le_k le_kc sub_kc nil29 nil28 nil49 mkmap size_setBlock cell_setB
attribute [local go_sem ↓] Go.wp_at_zero Go.wp_at_succ

/-- the keys that are told -/
def ToldK (w : World) (base : Nat) (v : Value) (kl : List H32) (bl : H32 → Bool) : Prop := KeysAt w base v kl ∧ kl.Pairwise (fun x y => cmpH x y < 0) ∧ ∀ q, q ∈ kl ↔ bl q = true

set_option maxRecDepth 8000 in
theorem does_list (D A B nB : Nat) (f : Fd) (mB : H32 → Option Value) (q : H32) (da ks : Value) (n cnt : Int) (tag : H32) (w : World) (hD : DevAt w D f) (hA : DeedAt w A 4 q da ks n cnt tag) (hfB : f.bm = .map (some B)) (hB : MapIs HC w B mB nB) (hn : nB ≤ 1099511627776) :
    Calls Try.prog 62 #[.pointer (some ⟨D, 0, none⟩), .pointer (some ⟨A, 0, none⟩)] w fun e w' => e = .returned (.int .i64 0) ∧ ∃ kA kn kc kl, DeedAt w' A 4 q da (.slice kA kn kc) n cnt tag ∧ ToldK w' w.heap.size (.slice kA kn kc) kl (fun q => (mB q).isSome) ∧ Chg (fun k => k = A) w w' := by
  have HR := Lib.hid (refuses_list D A B nB f mB q da ks n cnt tag w hD hA hfB hB _ rfl _ rfl)
  have HRI := Lib.hid (fun W (hb : Below w.heap.size w W) => rising_any B nB mB W (map_bel hB hb) hn)
  have HAq := Lib.hid hA
  obtain ⟨hc0, hc1, hc2, hc3, hc4, -⟩ := dev_c hD
  obtain ⟨ha0, ha33, ha34, ha35, ha36, hak, har⟩ := deed_c hA
  have hf34 := deed_fr hA 34
  have hDA := dev_ne_deed hD hA
  rw [hfB] at hc2
  have hDlt : D < w.heap.size := World.block_lt_of_cell? w _ hc2
  have hAlt : A < w.heap.size := World.block_lt_of_cell? w _ ha0
  clear hD hA hfB hB hak har hn
  go_enter Try.func62, Try.ntmps62
  go_wp2_with (first
    | (go_at_call 63; refine HR.out.mono ?_; rintro en w1 ⟨rfl, n1, rfl⟩)
    | (go_at_call 38; refine (HRI.out _ (by (repeat (first | exact Below.refl _ _ | refine bg_al ?_ | refine bg_gr ?_ | refine bg_drn ?_ | refine bg_dr ?_ | assumption)))).mono ?_; rintro en w2 ⟨v, kl, rfl, hk, hp, hm, hb⟩; obtain ⟨kA, kc, rfl⟩ := row_slice hk; obtain ⟨D2, rfl⟩ := gr_of_below hb; clear hb; have HK := Lib.hid hk; have HP := Lib.hid hp; have HM := Lib.hid hm; clear hk hp hm))
  go_ret
  have hkA : ∀ k, (Value.slice kA kl.length kc).ownBlock = some k → ¬ k = A := fun k hk e => by
    have := own_ge HK.out k hk
    simp at this
    omega
  have hlt : A < (w.drewN n1).heap.size := hAlt
  have hs : (((w.setCell ⟨A, 34, none⟩ (.slice kA kl.length kc)).gr D2) : World) = ((w.gr D2).setCell ⟨A, 34, none⟩ (.slice kA kl.length kc)) := (setCell_gr w D2 A 34 _ hAlt).symm
  refine ⟨rfl, kA, kl.length, kc, kl, ?_, ⟨?_, HP.out, HM.out⟩, ?_⟩
  · exact deed_bel (deed_set34 HAq.out _) (by (repeat (first | exact Below.refl _ _ | refine bg_al ?_ | refine bg_gr ?_ | refine bg_drn ?_ | refine bg_dr ?_ | assumption)))
  · rw [hs]
    exact own_mono (own_chg (S := fun k => k = A) HK.out (chg_set (S := fun k => k = A) (Chg.refl _ _) rfl _) hkA) (by simp)
  · exact (chg_set (S := fun k => k = A) (Chg.refl _ _) rfl _).trans (Below.chg _ (by (repeat (first | exact Below.refl _ _ | refine bg_al ?_ | refine bg_gr ?_ | refine bg_drn ?_ | refine bg_dr ?_ | assumption))))

theorem told_chg {w w' : World} {base : Nat} {v : Value} {kl : List H32} {bl : H32 → Bool} {S : Nat → Prop} (h : ToldK w base v kl bl) (hc : Chg S w w') (hs : ∀ k c fr, w.heap[k]? = some (.cells c 33 fr) → ¬ S k) : ToldK w' base v kl bl :=
  ⟨own_chg h.1 hc (fun k hk => by obtain ⟨c, fr, hh⟩ := own_heap h.1 hk; exact hs k c fr hh), h.2⟩

theorem acc_list {w : World} {D A : Nat} {F : Nat → Prop} {d : Dv} {n cnt : Int} {q tag : H32} {da ks : Value} (h : Awake w D F d) (hA : DeedAt w A 4 q da ks n cnt tag) (hn : d.n ≤ 1099511627776) (hfew : d.acc.length < 1099511627776 ∧ d.past.length < 1099511627776) :
    Calls Try.prog 35 #[.pointer (some ⟨D, 0, none⟩), .pointer (some ⟨A, 0, none⟩)] w fun e w' => e = .returned (.int .i64 0) ∧
      Awake w' D (Grown F w w') { d with acc := d.acc ++ [(4, 0, true)] } ∧ (∃ kA kn kc kl, DeedAt w' A 4 q da (.slice kA kn kc) n cnt tag ∧ ToldK w' w.heap.size (.slice kA kn kc) kl (fun q => (d.blobs q).isSome)) ∧ Chg (fun k => (F k ∨ k = A) ∧ ¬ isBytes w k) w w' := by
  have h1 := acc_plain h hA 0 d (fun w' => ∃ kA kn kc kl, DeedAt w' A 4 q da (.slice kA kn kc) n cnt tag ∧ ToldK w' w.heap.size (.slice kA kn kc) kl (fun q => (d.blobs q).isSome)) rfl rfl
    (doesC_tell hA d ⟨rfl, rfl, rfl, rfl⟩ (fun m N => rfl) _ (fun m W N mB hI hcW hdW hAW hBW hrB => (does_list D A m.B d.n _ mB q da ks n cnt tag W hdW hAW rfl hBW hn).mono ?_)) ?_ (fun h => absurd rfl h) hfew h.low
  · refine h1.mono ?_
    rintro e w' ⟨rfl, h2, h3, h4⟩
    have hp : pastL d d = d.past := by unfold pastL; rw [if_pos rfl]
    rw [hp] at h2
    exact ⟨rfl, h2, h3, h4⟩
  · rintro e w' ⟨rfl, kA, kn, kc, kl, hd, ⟨hk, hp, hm⟩, hc⟩
    refine ⟨rfl, ⟨q, da, _, n, cnt, tag, hd⟩, ⟨kA, kn, kc, kl, hd, own_mono hk hcW.size, hp, fun q' => ?_⟩, hc⟩
    rw [hm q']
    show (mB q').isSome = true ↔ _
    rw [(hrB q').none]
  · rintro w2 w' ⟨kA, kn, kc, kl, hd, ht⟩ hc
    exact ⟨kA, kn, kc, kl, tf_deed hd hc, told_chg ht hc (fun k c fr hk => tf_cells hk (by decide))⟩

theorem list_p {w : World} {D : Nat} {F : Nat → Prop} {s : Hn} {k : Nat} (h : Plain w D F s k) (hk : k < 1099511627776) (hn : s.n ≤ 1099511627776) :
    Calls Try.prog 9 #[.pointer (some ⟨D, 0, none⟩)] w fun e w' => ∃ kA kn kc kl, e = .returned (.tuple #[.slice kA kn kc, .int .i64 0]) ∧ ToldK w' w.heap.size (.slice kA kn kc) kl (fun q => (s.blobs q).isSome) ∧ After w w' D F s (k + 1) := by
  obtain ⟨d, hA, hdn, rfl, hf⟩ := h
  refine (list_walk w D 0 _ (run_gen_ok hA hdn 4 0 0 zero32 zero32 _ _ { d with acc := d.acc ++ [(4, 0, true)] } (fun t W => ∃ kl, ToldK W w.heap.size t.ks kl (fun q => (d.blobs q).isSome)) (fun W hbW hAW hd => (acc_list hAW hd hn ⟨(hf.lt hk).1, (hf.lt hk).2.1⟩).mono ?_) ?_)).mono ?_
  · rintro e w' ⟨rfl, h1, ⟨kA, kn, kc, kl, h2, h3⟩, h4⟩
    exact ⟨rfl, h1, ⟨⟨4, zero32, none, 0, 0, kA, kn, kc, 0, 0, zero32⟩, h2, kl, ⟨own_mono h3.1 hbW.size, h3.2⟩⟩, h4⟩
  · rintro t w2 w' ⟨kl, hu⟩ hc
    refine ⟨kl, told_chg hu hc (fun k c fr hk => ?_)⟩
    rintro ⟨c', fr', hh⟩
    rw [hk] at hh
    injection hh with hh
    injection hh with _ hh
    exact absurd hh (by decide)
  · rintro e w' ⟨t, w1, rfl, ⟨hL, kl, hu⟩, hb1⟩
    exact ⟨t.kA, t.kn, t.kc, kl, rfl, ⟨own_below hu.1 hb1, hu.2⟩, (hL.post hb1 hA.fit).after hdn rfl (hf.more (by simp) (by simp) (by simp))⟩
end Go.Proofs.Ytcbglojjbgenlaa
namespace Go.Proofs.Ytcbglojjbgenlaa
open Go.RowKit Go.MapL Go.ChangeMaps Go.MapKept
set_option linter.unusedSimpArgs false
set_option linter.unusedVariables false

def blobC (q : H32) (v : Value) : List Value := q.1.map bv ++ [v]
theorem blobC_len (q : H32) (v : Value) : (blobC q v).length = 33 := by simp [blobC, q.2]
def blobsC (kl : List H32) (vals : List Value) : List Value := (kl.zip vals).flatMap fun x => blobC x.1 x.2
theorem flat_fix {α β : Type} (f : α → List β) (n : Nat) (hf : ∀ x, (f x).length = n) : ∀ (l : List α) (i j : Nat) (hi : i < l.length), j < n → (l.flatMap f)[i * n + j]? = (f l[i])[j]?
  | [], i, j, h, _ => by simp at h
  | x :: r, 0, j, _, hj => by
    rw [List.flatMap_cons, List.getElem?_append_left (by rw [hf]; omega)]
    simp
  | x :: r, i + 1, j, h, hj => by
    have h' : i < r.length := by simpa using h
    rw [List.flatMap_cons, List.getElem?_append_right (by rw [hf, Nat.succ_mul]; omega), hf, show (i + 1) * n + j - n = i * n + j by rw [Nat.succ_mul]; omega, flat_fix f n hf r i j h' hj]
    simp
theorem blobs_len : ∀ (kl : List H32) (vals : List Value), vals.length = kl.length → (blobsC kl vals).length = kl.length * 33
  | [], vals, _ => by simp [blobsC]
  | x :: r, [], h => by simp at h
  | x :: r, v :: vs, h => by
    have := blobs_len r vs (by simpa using h)
    unfold blobsC at this ⊢
    rw [List.zip_cons_cons, List.flatMap_cons, List.length_append, this, blobC_len]
    simp
    omega
theorem blobs_snoc (kl : List H32) (vals : List Value) (h : vals.length = kl.length) (q : H32) (v : Value) : blobsC (kl ++ [q]) (vals ++ [v]) = blobsC kl vals ++ blobC q v := by
  unfold blobsC
  rw [List.zip_append h.symm, List.flatMap_append]
  simp
theorem blobs_one {kl : List H32} {vals : List Value} (h : ∀ v ∈ vals, v.oneCell' = true) : ∀ u ∈ blobsC kl vals, u.oneCell' = true := by
  intro u hu
  unfold blobsC at hu
  obtain ⟨x, hx, hu⟩ := List.mem_flatMap.1 hu
  unfold blobC at hu
  rcases List.mem_append.1 hu with hu | hu
  · exact bv_one _ u hu
  · simp at hu
    subst hu
    exact h _ (List.of_mem_zip hx).2
/-- a row of blobs -/
def BlobsAt (w : World) (base : Nat) (v : Value) (kl : List H32) (vals : List Value) : Prop := w.ownsRow base 101 33 v kl.length (blobsC kl vals)
theorem blobs_range {w : World} {base g cap : Nat} {kl : List H32} {vals : List Value} (h : BlobsAt w base (.slice (some ⟨g, 0, none⟩) kl.length cap) kl vals) (hl : vals.length = kl.length) (i : Nat) (hi : i < kl.length) (hi' : i < vals.length) : w.rangeAt g (i * 33) (blobC kl[i] vals[i]) := by
  intro j v hj
  have hj' : j < 33 := by
    have := (List.getElem?_eq_some_iff.1 hj).1
    rwa [blobC_len] at this
  have hf := flat_fix (fun x : H32 × Value => blobC x.1 x.2) 33 (fun x => blobC_len _ _) (kl.zip vals) i j (by simp; omega) hj'
  have := h.cells (g := g) rfl (i * 33 + j) v (by
    unfold blobsC
    rw [hf]
    simpa using hj)
  rw [addr_add, Nat.zero_add] at this
  exact this
theorem range_sub {w : World} {g o k : Nat} {cs ds : List Value} (h : w.rangeAt g o cs) (hk : ∀ j v, ds[j]? = some v → cs[k + j]? = some v) : w.rangeAt g (o + k) ds := fun j v hj => by
  have := h (k + j) v (hk j v hj)
  rwa [← Nat.add_assoc] at this
theorem blob_key {w : World} {g o : Nat} {q : H32} {v : Value} (h : w.rangeAt g o (blobC q v)) : w.rangeAt g o (q.1.map bv) := by
  have := range_sub (k := 0) h (ds := q.1.map bv) (fun j v hj => by
    have := (List.getElem?_eq_some_iff.1 hj).1
    rw [Nat.zero_add, blobC, List.getElem?_append_left this]
    exact hj)
  rwa [Nat.add_zero] at this
theorem blob_val {w : World} {g o : Nat} {q : H32} {v : Value} (h : w.rangeAt g o (blobC q v)) : w.cell? ⟨g, o + 32, none⟩ = some v := by
  have := h 32 v (by
    unfold blobC
    rw [List.getElem?_append_right (by simp [q.2])]
    simp [q.2])
  simpa using this
theorem sb_key {W : World} {g o : Nat} {q : H32} (h : W.rangeAt g o (q.1.map bv)) : SB W (.slice (some ⟨g, o, none⟩) 32 32) q.1 := by
  refine ⟨some ⟨g, o, none⟩, 32, by rw [q.2], fun j hj => ⟨g, o, rfl, ?_⟩, by rw [q.2]; omega, by simp [maxLen], fun h => by cases h⟩
  have := h j (bv q.1[j]) (by rw [List.getElem?_map, List.getElem?_eq_getElem hj]; rfl)
  simpa [bv] using this
theorem slice_key (W : World) (g o : Nat) : (Instr.sliceAt 33 (.pointer (some ⟨g, o, none⟩)) none none none).run Try.prog W = .ok (.slice (some ⟨g, o, none⟩) 32 32) W := by
  have h := run_sliceAt_array_all (P := Try.prog) (w := W) 33 ⟨g, o, none⟩ (by rw [elemHash, lenHash]; exact Try.underlying33)
  rw [h, elemHash, lenHash, Try.sizeOf5]
  rfl
theorem blobInfo : ((Try.prog).info? 101).map (·.size) = some 33 := by kernel_rfl
theorem st_blob (W : World) (g : Nat) (q : H32) (A : Option Addr) (n k : Nat) (c : Array Value) (hg : W.heap.size = g) (hc : c.size = 33) :
    (storeCells ⟨g, 0, none⟩ (blobC q (.slice A n k)) 0).run Try.prog (W.alloc (.cells c 101)) = .ok () (W.alloc (.cells (blobC q (.slice A n k)).toArray 101)) := by
  subst hg
  have := run_storeCells_new (P := Try.prog) W 101 c (blobC q (.slice A n k)).toArray (by rw [List.size_toArray, blobC_len]; exact blobInfo) (by simp [hc, blobC_len]) (all_oneCell_toArray (fun u hu => by
    unfold blobC at hu
    rcases List.mem_append.1 hu with hu | hu
    · exact bv_one _ u hu
    · simp at hu; subst hu; rfl))
  simpa using this
theorem blobC_32 (q : H32) (v : Value) : (blobC q v)[32]? = some v := by
  unfold blobC
  rw [List.getElem?_append_right (by simp [q.2])]
  simp [q.2]
theorem blobC_32g (q : H32) (v : Value) (h : 32 < (blobC q v).length) : (blobC q v)[32] = v := by
  have := blobC_32 q v
  rw [List.getElem?_eq_getElem h] at this
  injection this
/-- one version under a key -/
theorem MapV.put1 {w w' : World} {F F' S : Nat → Prop} {V n' : Nat} {vs : H32 → List Bs} {mv : H32 → Option Value} {q : H32} {u : Value} {l : Bs} (h1 : ∀ q, (mv q = none ∧ vs q = []) ∨ ∃ v, mv q = some v ∧ VerV w F v (vs q))
    (h2 : ∀ q q' v v' k, q ≠ q' → mv q = some v → mv q' = some v' → v.ownBlock = some k → v'.ownBlock ≠ some k) (hm : MapIs HC w' V (putV mv q u) n') (hc : Chg S w w') (hs : ∀ k, isBytes w k → ¬ S k) (hr : ∀ k c fr, w.heap[k]? = some (.cells c 29 fr) → ¬ S k) (hF : ∀ k, F k → F' k)
    (hu : VerV w' F' u [l]) (hub : ∀ k, u.ownBlock = some k → w.heap.size ≤ k) : MapV w' F' V (updL vs q [l]) := by
  have hold : ∀ q v k, mv q = some v → v.ownBlock = some k → k < w.heap.size := fun q v k hq hk => by
    rcases h1 q with ⟨h, _⟩ | ⟨v', e, vals, ho, _⟩
    · rw [hq] at h; cases h
    · rw [hq] at e
      injection e with e
      subst e
      obtain ⟨_, _, hh⟩ := own_heap ho hk
      exact (Array.getElem?_eq_some_iff.1 hh).1
  refine ⟨_, n', hm, fun q' => ?_, fun q1 q2 v v' k hne e1 e2 hk hk' => ?_⟩
  · by_cases h : q' = q
    · subst h
      simp only [putV, updL, if_true]
      exact Or.inr ⟨u, rfl, hu⟩
    · simp only [putV, updL, if_neg h]
      rcases h1 q' with h | ⟨v, e, hv⟩
      · exact Or.inl h
      · refine Or.inr ⟨v, e, hv.chg hc (fun k hk => ?_) hs hF⟩
        obtain ⟨vals, ho, _⟩ := hv
        obtain ⟨_, _, hh⟩ := own_heap ho hk
        exact hr _ _ _ hh
  · simp only [putV] at e1 e2
    by_cases a1 : q1 = q
    · rw [if_pos a1] at e1
      rw [if_neg (fun e => hne (a1.trans e.symm))] at e2
      injection e1 with e1
      subst e1
      have := hub k hk
      have := hold _ _ _ e2 hk'
      omega
    · rw [if_neg a1] at e1
      by_cases a2 : q2 = q
      · rw [if_pos a2] at e2
        injection e2 with e2
        subst e2
        have := hub k hk'
        have := hold _ _ _ e1 hk
        omega
      · rw [if_neg a2] at e2
        exact h2 q1 q2 v v' k hne e1 e2 hk hk'
theorem load_step {wr w' : World} {D : Nat} {F F' : Nat → Prop} {d : Dv} {m : Mm} (hI : Core wr D F (fun k => k = m.B ∨ k = m.V) d m) (hc : Chg (fun k => k = m.B ∨ k = m.V) wr w') (hFF : ∀ k, F k → F' k) {q : H32} {l : Bs} {v u : Value} {mB mV : H32 → Option Value} {n' nV' : Nat}
    (hrB : ∀ q, OptR (DB wr F) (mB q) (d.blobs q)) (hB' : MapIs HC w' m.B (putV mB q v) n') (hv : DB w' F' v l)
    (h1 : ∀ q, (mV q = none ∧ d.vers q = []) ∨ ∃ v, mV q = some v ∧ VerV wr F v (d.vers q)) (h2 : ∀ q q' v v' k, q ≠ q' → mV q = some v → mV q' = some v' → v.ownBlock = some k → v'.ownBlock ≠ some k)
    (hV' : MapIs HC w' m.V (putV mV q u) nV') (hu : VerV w' F' u [l]) (hub : ∀ k, u.ownBlock = some k → wr.heap.size ≤ k) :
    Core w' D F' (fun k => k = m.B ∨ k = m.V) { d with blobs := updO d.blobs q (some l), n := n', vers := updL d.vers q [l] } m := by
  obtain ⟨mB0, hmB0, _⟩ := hI.blobs
  obtain ⟨mV0, nV0, hmV0, _⟩ := hI.vers
  obtain ⟨es0, clk0, hh0⟩ := map_heap hmB0
  obtain ⟨es1, clk1, hh1⟩ := map_heap hmV0
  have hn : ∀ k c t fr, wr.heap[k]? = some (.cells c t fr) → ¬ (k = m.B ∨ k = m.V) := by
    rintro k c t fr hk (rfl | rfl)
    · rw [hh0] at hk; cases hk
    · rw [hh1] at hk; cases hk
  have hb : ∀ k, isBytes wr k → ¬ (k = m.B ∨ k = m.V) := fun k ⟨cs, fr, hk⟩ => hn k _ _ _ hk
  obtain ⟨vals, g1, g2, g3, g4⟩ := hI.past
  have hr : ∀ {e : TypeId} {size : Nat} {v : Value} {n : Nat} {xs : List Value}, wr.ownsRow 0 e size v n xs → w'.ownsRow 0 e size v n xs := fun hv => own_chg hv hc (fun k hk => by
    obtain ⟨_, _, hh⟩ := own_heap hv hk
    exact hn k _ _ _ hh)
  exact ⟨dev_chg hI.dev hc (hn _ _ _ _ hI.dev), hFF _ hI.fD, hFF _ hI.fB, hFF _ hI.fV, hI.xB, hI.xV, hI.bv, MapB.put hB' hrB hc hb hFF hv, MapV.put1 h1 h2 hV' hc hb (fun k c fr hk => hn k _ _ _ hk) hFF hu hub,
    (hI.log.chg hc hb).mono hFF, hI.cho.chg hc (fun k c fr hk => hn k _ _ _ hk) hFF, ⟨hr hI.acc.1, fun k hk => hFF _ (hI.acc.2 k hk)⟩, ⟨vals, g1, hr g2, fun i hi hi' => (g3 i hi hi').chg hc (fun k es clk hk hS => hS) hb hFF, fun k hk => hFF _ (g4 k hk)⟩⟩
end Go.Proofs.Ytcbglojjbgenlaa
