/- An awake device's calls: Read, Get, Append, Put, Accesses. -/
import Derived.Test.YtcbglojjbgenlaaMedU
namespace Go.Proofs.Ytcbglojjbgenlaa
open Go.RowKit Go.MapL Go.ChangeMaps Go.MapKept
set_option linter.unusedSimpArgs false
set_option linter.unusedVariables false

theorem Inv.deed {w w' : World} {D : Nat} {F : Nat → Prop} {d : Dv} (h : Inv w D F d) {X : Nat} (hc : Chg (fun k => k = X) w w') (hX : ∀ o, w.heap[X]? = some o → ∃ c fr, o = .cells c 86 fr) : Inv w' D F d := by
  obtain ⟨m, hI⟩ := h
  have hn : ∀ k c t fr, w.heap[k]? = some (.cells c t fr) → t ≠ 86 → ¬ k = X := by
    rintro k c t fr hk ht rfl
    obtain ⟨c', fr', e⟩ := hX _ hk
    injection e with _ e
    exact ht e
  have hm : ∀ k es clk, w.heap[k]? = some (.map es clk) → ¬ k = X := by
    rintro k es clk hk rfl
    obtain ⟨c', fr', e⟩ := hX _ hk
    cases e
  have hb : ∀ k, isBytes w k → ¬ k = X := fun k ⟨cs, fr, hk⟩ => hn k _ _ _ hk (by decide)
  obtain ⟨mB, hmB, _⟩ := hI.blobs
  obtain ⟨mV, _, hmV, _⟩ := hI.vers
  obtain ⟨es0, clk0, hh0⟩ := map_heap hmB
  obtain ⟨es1, clk1, hh1⟩ := map_heap hmV
  obtain ⟨vals, h1, h2, h3, h4⟩ := hI.past
  have hr : ∀ {e : TypeId} {size : Nat} {v : Value} {n : Nat} {xs : List Value}, w.ownsRow 0 e size v n xs → e ≠ 86 → w'.ownsRow 0 e size v n xs := fun hv he => own_chg hv hc (fun k hk => by
    obtain ⟨_, _, hh⟩ := own_heap hv hk
    exact hn k _ _ _ hh he)
  exact ⟨m, dev_chg hI.dev hc (hn _ _ _ _ hI.dev (by decide)), hI.fD, hI.fB, hI.fV, hI.xB, hI.xV, hI.bv, hI.blobs.chg hc (hm _ _ _ hh0) hb (fun _ h => h), hI.vers.chg hc (hm _ _ _ hh1) (fun k c fr hk => hn k _ _ _ hk (by decide)) hb (fun _ h => h),
    hI.log.chg hc hb, hI.cho.chg hc (fun k c fr hk => hn k _ _ _ hk (by decide)) (fun _ h => h), ⟨hr hI.acc.1 (by decide), hI.acc.2⟩, ⟨vals, h1, hr h2 (by decide), fun i hi hi' => (h3 i hi hi').chg hc (fun k es clk hk hS => absurd hS (hm k es clk hk)) hb (fun _ h => h), h4⟩⟩
theorem Awake.below {w w' : World} {D : Nat} {F : Nat → Prop} {d : Dv} (h : Awake w D F d) (hb : Below w.heap.size w w') : Awake w' D F d :=
  ⟨h.inv.deed (X := w.heap.size) (Below.chg _ hb) (fun o ho => by simp at ho), fun k hk => Nat.lt_of_lt_of_le (h.fit k hk) hb.size, h.cho, h.few, h.low⟩
theorem Awake.mono {w : World} {D : Nat} {F F' : Nat → Prop} {d : Dv} (h : Awake w D F d) (hF : ∀ k, F k → F' k) (hf : ∀ k, F' k → k < w.heap.size) : Awake w D F' d := ⟨h.inv.mono hF, hf, h.cho, h.few, h.low⟩
theorem Awake.dev {w : World} {D : Nat} {F : Nat → Prop} {d : Dv} (h : Awake w D F d) : ∃ f, DevAt w D f ∧ f.down = d.down := by
  obtain ⟨m, hI⟩ := h.inv
  exact ⟨_, hI.dev, rfl⟩

attribute [local go_sem] size_gr cell_gr frozen_gr setCell_gr gr_drew gr_drewN lt_k lt_kc le_k le_kc sub_kc nil29 nil28 nil49 mkmap size_setBlock cell_setB
attribute [local go_sem ↓] Go.wp_at_zero Go.wp_at_succ

theorem closed_live {w : World} {D : Nat} {f : Fd} (h : DevAt w D f) (hd : f.down = false) : Calls Try.prog 34 #[.pointer (some ⟨D, 0, none⟩)] w fun e w' => e = .returned (.int .i64 0) ∧ w' = w := by
  obtain ⟨-, -, -, -, -, hc37, -⟩ := dev_c h
  rw [hd] at hc37
  clear h hd
  go_enter Try.func34, Try.ntmps34
  go_wp2
  go_ret
  exact ⟨rfl, rfl⟩

set_option maxRecDepth 8000 in
/-- run, of an access that is done. -/
theorem run_live (D : Nat) (f : Fd) (kind n cnt : Int) (q tag : H32) (da ks : Value) (w : World) (hD : DevAt w D f) (hdn : f.down = false) (hks : ks.oneCell' = true) (R : Value → World → Prop)
    (hacc : Calls Try.prog 35 #[.pointer (some ⟨D, 0, none⟩), .pointer (some ⟨w.heap.size, 0, none⟩)] ((w.alloc (.cells (deedC kind q da ks n cnt tag).toArray 86)).alloc (.cells Try.zeroCells86 86)) fun e w' => e = .returned (.int .i64 0) ∧
      ∃ xA xn xc, DeedAt w' w.heap.size kind q (.slice xA xn xc) ks n cnt tag ∧ w'.heap[w.heap.size + 1]? = some (.cells Try.zeroCells86 86 (0, 0)) ∧ R (.slice xA xn xc) w') :
    Calls Try.prog 32 #[.pointer (some ⟨D, 0, none⟩), .agg (deedC kind q da ks n cnt tag).toArray] w fun e w' => ∃ xA xn xc, e = .returned (.tuple #[.agg (deedC kind q (.slice xA xn xc) ks n cnt tag).toArray, .int .i64 0]) ∧ ∃ w2, R (.slice xA xn xc) w2 ∧ w2.heap[w.heap.size + 1]? = some (.cells Try.zeroCells86 86 (0, 0)) ∧ w' = w2.setRow (w.heap.size + 1) (deedC kind q (.slice xA xn xc) ks n cnt tag).toArray := by
  have HD := Lib.hid hD
  have HDN := Lib.hid hdn
  have HA := Lib.hid hacc
  have H2 := Lib.hid hks
  clear hD hdn hacc hks
  go_enter Try.func32, Try.ntmps32
  go_wp2_with (first
    | (go_at_call 34; refine (closed_live (dev_bel HD.out (by (repeat (first | exact Below.refl _ _ | refine bg_al ?_ | refine bg_gr ?_ | refine bg_drn ?_ | refine bg_dr ?_ | assumption)))) HDN.out).mono ?_; rintro en w1 ⟨rfl, rfl⟩)
    | (go_at_call 35; refine HA.out.mono ?_; rintro en w2 ⟨rfl, xA, xn, xc, hd2, hz2, hR⟩; have HD2 := Lib.hid hd2; have HZ2 := Lib.hid hz2; have HR := Lib.hid hR; clear hd2 hz2 hR)
    | (refine wpList_load_mid rfl 86 _ rfl _ _ (by rfl) (deedC kind q (.slice xA xn xc) ks n cnt tag) _ (range_blk HD2.out 0 _ (fun j v hj => by simpa using hj)) Try.underlying86 rfl (by rw [deed_len]; exact deedInfo) ?_)
    | (refine wl_store_row rfl 86 _ _ rfl (w.heap.size + 1) _ _ (by rfl) (by rfl) HZ2.out (by rw [List.size_toArray, deed_len]; exact deedInfo) (by rw [zd_size, List.size_toArray, deed_len]) (deed_one _ _ _ _ _ _ _ (by rfl) H2.out) ?_))
  refine bodyPost_ret (results_run rfl (setRow_heap _ _ _ _ _ _ HZ2.out) (by rw [List.size_toArray, deed_len])) rfl ?_
  exact ⟨xA, xn, xc, rfl, w2, HR.out, HZ2.out, rfl⟩

theorem st_deedS (W : World) (g : Nat) (c : Array Value) (kind n cnt : Int) (q tag : H32) (xA : Option Addr) (xn xc : Nat) (hg : W.heap.size = g) (hc : c.size = 69) :
    (storeCells ⟨g, 0, none⟩ (deedC kind q (.slice xA xn xc) (.slice none 0 0) n cnt tag) 0).run Try.prog (W.alloc (.cells c 86)) = .ok () (W.alloc (.cells (deedC kind q (.slice xA xn xc) (.slice none 0 0) n cnt tag).toArray 86)) := by
  have := st_deed W g c (deedC kind q (.slice xA xn xc) (.slice none 0 0) n cnt tag).toArray hg hc (deed_sz ..) (deed_one _ _ _ _ _ _ _ rfl rfl)
  simpa using this
theorem deed_33 (kind n cnt : Int) (q tag : H32) (a b : Value) : (deedC kind q a b n cnt tag)[33]? = some a := by
  unfold deedC
  rw [List.getElem?_append_right (by simp), List.getElem?_append_right (by simp [q.2])]
  simp [q.2]
theorem deed_33g (kind n cnt : Int) (q tag : H32) (a b : Value) (h : 33 < (deedC kind q a b n cnt tag).length) : (deedC kind q a b n cnt tag)[33] = a := by
  have := deed_33 kind n cnt q tag a b
  rw [List.getElem?_eq_getElem h] at this
  injection this
attribute [local go_sem] st_deedS deed_33 deed_33g deed_len zd_size

theorem Awake.setRow {w : World} {D : Nat} {F : Nat → Prop} {d : Dv} (h : Awake w D F d) {X : Nat} {c c' : Array Value} {fr : Nat × Nat} (hX : w.heap[X]? = some (.cells c 86 fr)) : Awake (w.setRow X c') D F d :=
  ⟨h.inv.deed (X := X) (setRow_chg (S := fun k => k = X) (Chg.refl _ _) (Or.inl rfl) c') (fun o ho => by rw [hX] at ho; injection ho with ho; exact ⟨c, fr, ho.symm⟩), fun k hk => by have := h.fit k hk; simpa [World.setRow] using this, h.cho, h.few, h.low⟩
/-- bytes stand -/
def Byk (w w' : World) : Prop := Chg (fun k => ¬ isBytes w k) w w'
theorem Byk.refl (w : World) : Byk w w := Chg.refl _ _
theorem Byk.below {w w' : World} (h : Below w.heap.size w w') : Byk w w' := Below.chg _ h
theorem Byk.trans {a b c : World} (h : Byk a b) (k : Byk b c) : Byk a c := by
  have hb : Chg (fun k => ¬ isBytes a k) b c := ⟨k.os, k.tape, k.output, k.size, fun i hi hn => k.block i hi (fun hnb => by
    have ha : isBytes a i := Classical.byContradiction hn
    exact hnb (isBytes_chg ha h (fun hx => hx ha)))⟩
  exact Chg.trans h hb
theorem Byk.of {S : Nat → Prop} {w w' : World} (h : Chg S w w') (hs : ∀ k, S k → ¬ isBytes w k) : Byk w w' := h.mono (fun k _ hk => hs k hk)
theorem Byk.db {w w' : World} {F : Nat → Prop} {v : Value} {l : Bs} (h : DB w F v l) (hb : Byk w w') : DB w' F v l := h.chg hb (fun k hk hn => hn hk)
theorem Byk.setRow {w : World} {X : Nat} {c c' : Array Value} {fr : Nat × Nat} (hX : w.heap[X]? = some (.cells c 86 fr)) : Byk w (w.setRow X c') :=
  Byk.of (S := fun k => k = X) (setRow_chg (S := fun k => k = X) (Chg.refl _ _) (Or.inl rfl) c') (by
    rintro k rfl ⟨cs, fr', hk⟩
    rw [hX] at hk
    injection hk with hk
    injection hk with _ hk
    exact absurd hk (by decide))

theorem chg_run {w W w2 : World} {F : Nat → Prop} {A : Nat} {c : Array Value} (hW : Below w.heap.size w W) (hA : w.heap.size ≤ A) (hf : Chg (fun k => F k ∨ k = A) W w2) : Chg F w (w2.setRow (w.heap.size + 1) c) := by
  have h1 : Chg (fun k => F k ∨ w.heap.size ≤ k) w w2 := (Below.chg _ hW).trans (hf.mono (fun k _ h => h.imp id (fun (e : _ = A) => by omega)))
  exact (setRow_chg (S := fun k => F k ∨ w.heap.size ≤ k) h1 (Or.inl (Or.inr (by omega))) c).mono (fun k hk h => h.elim id (fun h => by omega))
/-- the run of a Read -/
theorem run_read {w : World} {D : Nat} {F : Nat → Prop} {d : Dv} (h : Awake w D F d) (hdn : d.down = false) (hfew : d.acc.length < 1099511627776) :
    Calls Try.prog 32 #[.pointer (some ⟨D, 0, none⟩), .agg (deedC 5 zero32 (.slice none 0 0) (.slice none 0 0) 0 0 zero32).toArray] w fun e w' => ∃ xA xn xc, e = .returned (.tuple #[.agg (deedC 5 zero32 (.slice xA xn xc) (.slice none 0 0) 0 0 zero32).toArray, .int .i64 0]) ∧
      Awake w' D (Grown F w w') { d with acc := d.acc ++ [(5, 0, true)] } ∧ DB w' (fun _ => True) (.slice xA xn xc) d.log ∧ Byk w w' ∧ Chg F w w' := by
  obtain ⟨f, hD, hfd⟩ := h.dev
  have hW : Below w.heap.size w ((w.alloc (.cells (deedC 5 zero32 (.slice none 0 0) (.slice none 0 0) 0 0 zero32).toArray 86)).alloc (.cells Try.zeroCells86 86)) := by (repeat (first | exact Below.refl _ _ | refine bg_al ?_ | refine bg_gr ?_ | refine bg_drn ?_ | refine bg_dr ?_ | assumption))
  have hAW := h.below hW
  have hdeed : DeedAt ((w.alloc (.cells (deedC 5 zero32 (.slice none 0 0) (.slice none 0 0) 0 0 zero32).toArray 86)).alloc (.cells Try.zeroCells86 86)) w.heap.size 5 zero32 (.slice none 0 0) (.slice none 0 0) 0 0 zero32 := by
    unfold DeedAt
    rw [Below.heap_alloc _ _ _ (by simp), heap_alloc_last]
  have hz : ((w.alloc (.cells (deedC 5 zero32 (.slice none 0 0) (.slice none 0 0) 0 0 zero32).toArray 86)).alloc (.cells Try.zeroCells86 86)).heap[w.heap.size + 1]? = some (.cells Try.zeroCells86 86 (0, 0)) := by
    have : (w.alloc (.cells (deedC 5 zero32 (.slice none 0 0) (.slice none 0 0) 0 0 zero32).toArray 86)).heap.size = w.heap.size + 1 := by simp
    rw [← this, heap_alloc_last]
  generalize hWW : ((w.alloc (.cells (deedC 5 zero32 (.slice none 0 0) (.slice none 0 0) 0 0 zero32).toArray 86)).alloc (.cells Try.zeroCells86 86)) = W at hW hAW hdeed hz
  have hWs : W.heap.size = w.heap.size + 2 := by rw [← hWW]; simp
  refine (run_live D f 5 0 0 zero32 zero32 _ _ w hD (hfd.trans hdn) rfl (fun v w2 => Awake w2 D (Grown F W w2) { d with acc := d.acc ++ [(5, 0, true)] } ∧ DB w2 (fun _ => True) v d.log ∧ Byk W w2 ∧ Chg (fun k => F k ∨ k = w.heap.size) W w2) ?_).mono ?_
  · rw [hWW]
    refine (acc_read hAW hdeed hfew).mono ?_
    rintro e w2 ⟨rfl, hA2, ⟨v, hd2, hs2⟩, hc2⟩
    have hs2' := hs2
    obtain ⟨⟨xA, xc, rfl, -⟩, -⟩ := hs2
    refine ⟨rfl, xA, _, xc, hd2, ?_, hA2, hs2', Byk.of hc2 (fun k hk => hk.2), hc2.mono (fun k _ hk => hk.1)⟩
    rw [hc2.block _ (by omega) (fun hk => by
      rcases hk.1 with hk | hk
      · have := h.fit _ hk; omega
      · omega)]
    exact hz
  · rintro e w' ⟨xA, xn, xc, rfl, w2, ⟨hA2, hs2, hb2, hf2⟩, hz2, rfl⟩
    have hby : Byk w (w2.setRow (w.heap.size + 1) (deedC 5 zero32 (.slice xA xn xc) (.slice none 0 0) 0 0 zero32).toArray) := ((Byk.below hW).trans hb2).trans (Byk.setRow hz2)
    have hcF := chg_run (F := F) hW (show w.heap.size ≤ w.heap.size from Nat.le_refl _) hf2 (c := (deedC 5 zero32 (.slice xA xn xc) (.slice none 0 0) 0 0 zero32).toArray)
    refine ⟨xA, xn, xc, rfl, ?_, ?_, hby, hcF⟩
    · refine (hA2.setRow hz2).mono (fun k hk => ?_) (fun k hk => ?_)
      · rcases hk with hk | hk
        · exact Or.inl hk
        · exact Or.inr ⟨by omega, by simpa [World.setRow] using hk.2⟩
      · rcases hk with hk | hk
        · have := h.fit k hk; have := hby.size; omega
        · exact hk.2
    · exact Byk.db hs2 (Byk.setRow hz2)

/-- the run of a Get -/
theorem run_get {w : World} {D : Nat} {F : Nat → Prop} {d : Dv} {q : H32} {l : Bs} (h : Awake w D F d) (hdn : d.down = false) (hl : d.blobs q = some l) (hfew : d.acc.length < 1099511627776) :
    Calls Try.prog 32 #[.pointer (some ⟨D, 0, none⟩), .agg (deedC 1 q (.slice none 0 0) (.slice none 0 0) 0 0 zero32).toArray] w fun e w' => ∃ xA xn xc, e = .returned (.tuple #[.agg (deedC 1 q (.slice xA xn xc) (.slice none 0 0) 0 0 zero32).toArray, .int .i64 0]) ∧
      Awake w' D (Grown F w w') { d with acc := d.acc ++ [(1, 0, true)] } ∧ DB w' (fun _ => True) (.slice xA xn xc) l ∧ Byk w w' ∧ Chg F w w' := by
  obtain ⟨f, hD, hfd⟩ := h.dev
  have hW : Below w.heap.size w ((w.alloc (.cells (deedC 1 q (.slice none 0 0) (.slice none 0 0) 0 0 zero32).toArray 86)).alloc (.cells Try.zeroCells86 86)) := by (repeat (first | exact Below.refl _ _ | refine bg_al ?_ | refine bg_gr ?_ | refine bg_drn ?_ | refine bg_dr ?_ | assumption))
  have hAW := h.below hW
  have hdeed : DeedAt ((w.alloc (.cells (deedC 1 q (.slice none 0 0) (.slice none 0 0) 0 0 zero32).toArray 86)).alloc (.cells Try.zeroCells86 86)) w.heap.size 1 q (.slice none 0 0) (.slice none 0 0) 0 0 zero32 := by
    unfold DeedAt
    rw [Below.heap_alloc _ _ _ (by simp), heap_alloc_last]
  have hz : ((w.alloc (.cells (deedC 1 q (.slice none 0 0) (.slice none 0 0) 0 0 zero32).toArray 86)).alloc (.cells Try.zeroCells86 86)).heap[w.heap.size + 1]? = some (.cells Try.zeroCells86 86 (0, 0)) := by
    have : (w.alloc (.cells (deedC 1 q (.slice none 0 0) (.slice none 0 0) 0 0 zero32).toArray 86)).heap.size = w.heap.size + 1 := by simp
    rw [← this, heap_alloc_last]
  generalize hWW : ((w.alloc (.cells (deedC 1 q (.slice none 0 0) (.slice none 0 0) 0 0 zero32).toArray 86)).alloc (.cells Try.zeroCells86 86)) = W at hW hAW hdeed hz
  have hWs : W.heap.size = w.heap.size + 2 := by rw [← hWW]; simp
  refine (run_live D f 1 0 0 q zero32 _ _ w hD (hfd.trans hdn) rfl (fun v w2 => Awake w2 D (Grown F W w2) { d with acc := d.acc ++ [(1, 0, true)] } ∧ DB w2 (fun _ => True) v l ∧ Byk W w2 ∧ Chg (fun k => F k ∨ k = w.heap.size) W w2) ?_).mono ?_
  · rw [hWW]
    refine (acc_get hAW hdeed l hl hfew).mono ?_
    rintro e w2 ⟨rfl, hA2, ⟨v, hd2, hs2⟩, hc2⟩
    have hs2' := hs2
    obtain ⟨⟨xA, xc, rfl, -⟩, -⟩ := hs2
    refine ⟨rfl, xA, _, xc, hd2, ?_, hA2, hs2', Byk.of hc2 (fun k hk => hk.2), hc2.mono (fun k _ hk => hk.1)⟩
    rw [hc2.block _ (by omega) (fun hk => by
      rcases hk.1 with hk | hk
      · have := h.fit _ hk; omega
      · omega)]
    exact hz
  · rintro e w' ⟨xA, xn, xc, rfl, w2, ⟨hA2, hs2, hb2, hf2⟩, hz2, rfl⟩
    have hby : Byk w (w2.setRow (w.heap.size + 1) (deedC 1 q (.slice xA xn xc) (.slice none 0 0) 0 0 zero32).toArray) := ((Byk.below hW).trans hb2).trans (Byk.setRow hz2)
    have hcF := chg_run (F := F) hW (show w.heap.size ≤ w.heap.size from Nat.le_refl _) hf2 (c := (deedC 1 q (.slice xA xn xc) (.slice none 0 0) 0 0 zero32).toArray)
    refine ⟨xA, xn, xc, rfl, ?_, ?_, hby, hcF⟩
    · refine (hA2.setRow hz2).mono (fun k hk => ?_) (fun k hk => ?_)
      · rcases hk with hk | hk
        · exact Or.inl hk
        · exact Or.inr ⟨by omega, by simpa [World.setRow] using hk.2⟩
      · rcases hk with hk | hk
        · have := h.fit k hk; have := hby.size; omega
        · exact hk.2
    · exact Byk.db hs2 (Byk.setRow hz2)

/-- the run of an Append -/
theorem run_append {w : World} {D : Nat} {F : Nat → Prop} {d : Dv} {ld : Bs} {dA : Option Addr} {dc : Nat} (h : Awake w D F d) (hdn : d.down = false) (hda : DB w (fun _ => True) (.slice dA ld.length dc) ld) (hroom : (d.log.length : Int) + ld.length ≤ d.room) (hr2 : d.room ≤ 1048576) (hne : ld ≠ []) (hfew : d.acc.length < 1099511627776 ∧ d.past.length < 1099511627776) :
    Calls Try.prog 32 #[.pointer (some ⟨D, 0, none⟩), .agg (deedC 6 zero32 (.slice dA ld.length dc) (.slice none 0 0) 0 0 zero32).toArray] w fun e w' => ∃ xA xn xc, e = .returned (.tuple #[.agg (deedC 6 zero32 (.slice xA xn xc) (.slice none 0 0) 0 0 zero32).toArray, .int .i64 0]) ∧
      Awake w' D (Grown F w w') { d with log := d.log ++ ld, acc := d.acc ++ [(6, 0, true)], past := d.past ++ [⟨fun _ => none, 0, d.log⟩] } ∧ Byk w w' ∧ Chg F w w' := by
  obtain ⟨f, hD, hfd⟩ := h.dev
  have hnD : ∀ a, vBlock (.slice dA ld.length dc) = some a → a ≠ D := by
    rintro a ha rfl
    obtain ⟨_, cs, fr, hk⟩ := hda.2 a ha
    unfold DevAt at hD
    rw [hD] at hk
    injection hk with hk
    injection hk with _ hk
    exact absurd hk (by decide)
  have hW : Below w.heap.size w ((w.alloc (.cells (deedC 6 zero32 (.slice dA ld.length dc) (.slice none 0 0) 0 0 zero32).toArray 86)).alloc (.cells Try.zeroCells86 86)) := by (repeat (first | exact Below.refl _ _ | refine bg_al ?_ | refine bg_gr ?_ | refine bg_drn ?_ | refine bg_dr ?_ | assumption))
  have hAW := h.below hW
  have hdeed : DeedAt ((w.alloc (.cells (deedC 6 zero32 (.slice dA ld.length dc) (.slice none 0 0) 0 0 zero32).toArray 86)).alloc (.cells Try.zeroCells86 86)) w.heap.size 6 zero32 (.slice dA ld.length dc) (.slice none 0 0) 0 0 zero32 := by
    unfold DeedAt
    rw [Below.heap_alloc _ _ _ (by simp), heap_alloc_last]
  have hz : ((w.alloc (.cells (deedC 6 zero32 (.slice dA ld.length dc) (.slice none 0 0) 0 0 zero32).toArray 86)).alloc (.cells Try.zeroCells86 86)).heap[w.heap.size + 1]? = some (.cells Try.zeroCells86 86 (0, 0)) := by
    have : (w.alloc (.cells (deedC 6 zero32 (.slice dA ld.length dc) (.slice none 0 0) 0 0 zero32).toArray 86)).heap.size = w.heap.size + 1 := by simp
    rw [← this, heap_alloc_last]
  generalize hWW : ((w.alloc (.cells (deedC 6 zero32 (.slice dA ld.length dc) (.slice none 0 0) 0 0 zero32).toArray 86)).alloc (.cells Try.zeroCells86 86)) = W at hW hAW hdeed hz
  have hWs : W.heap.size = w.heap.size + 2 := by rw [← hWW]; simp
  refine (run_live D f 6 0 0 zero32 zero32 _ _ w hD (hfd.trans hdn) rfl (fun v w2 => Awake w2 D (Grown F W w2) { d with log := d.log ++ ld, acc := d.acc ++ [(6, 0, true)], past := d.past ++ [⟨fun _ => none, 0, d.log⟩] } ∧ Byk W w2 ∧ Chg (fun k => F k ∨ k = w.heap.size) W w2) ?_).mono ?_
  · rw [hWW]
    refine (acc_append hAW hdeed ld (hda.chg (S := fun _ => False) (Below.chg _ hW) (fun _ _ h => h)).1 hnD hroom hr2 hne hfew).mono ?_
    rintro e w2 ⟨rfl, hA2, hd2, hc2⟩
    refine ⟨rfl, dA, _, dc, hd2, ?_, hA2, Byk.of hc2 (fun k hk => hk.2), hc2.mono (fun k _ hk => hk.1)⟩
    rw [hc2.block _ (by omega) (fun hk => by
      rcases hk.1 with hk | hk
      · have := h.fit _ hk; omega
      · omega)]
    exact hz
  · rintro e w' ⟨xA, xn, xc, rfl, w2, ⟨hA2, hb2, hf2⟩, hz2, rfl⟩
    have hby : Byk w (w2.setRow (w.heap.size + 1) (deedC 6 zero32 (.slice xA xn xc) (.slice none 0 0) 0 0 zero32).toArray) := ((Byk.below hW).trans hb2).trans (Byk.setRow hz2)
    have hcF := chg_run (F := F) hW (show w.heap.size ≤ w.heap.size from Nat.le_refl _) hf2 (c := (deedC 6 zero32 (.slice xA xn xc) (.slice none 0 0) 0 0 zero32).toArray)
    refine ⟨xA, xn, xc, rfl, ?_, hby, hcF⟩
    · refine (hA2.setRow hz2).mono (fun k hk => ?_) (fun k hk => ?_)
      · rcases hk with hk | hk
        · exact Or.inl hk
        · exact Or.inr ⟨by omega, by simpa [World.setRow] using hk.2⟩
      · rcases hk with hk | hk
        · have := h.fit k hk; have := hby.size; omega
        · exact hk.2

end Go.Proofs.Ytcbglojjbgenlaa
