/- One access by no choice. -/
import Derived.Test.YtcbglojjbgenlaaMedM
import Derived.Deep.DeepCutAuto
namespace Go.Proofs.Ytcbglojjbgenlaa
open Go.RowKit Go.MapL Go.ChangeMaps Go.MapKept
set_option linter.unusedSimpArgs false
set_option linter.unusedVariables false
attribute [local go_sem] size_gr cell_gr frozen_gr setCell_gr gr_drew gr_drewN lt_k lt_kc le_k le_kc sub_kc nil29 nil28 nil49 mkmap size_setBlock cell_setB
attribute [local go_sem ↓] Go.wp_at_zero Go.wp_at_succ

/-- (*Device).honest as a value -/
abbrev hfun : Value := .func (.func 50) #[] #[]
theorem st_fun (W : World) (a : Addr) (h : (W.cell? a).isSome = true) (hf : W.frozen? a = false) : (store a (.func (.func 50) #[] #[])).run Try.prog W = .ok () (W.setCell a (.func (.func 50) #[] #[])) := by
  obtain ⟨u, hu⟩ := Option.isSome_iff_exists.1 h
  rw [run_store Try.prog W a _ _ (by rfl), hu]
  simp [hf]
attribute [local go_sem] st_fun
theorem manner_zero (w : World) : Calls Try.prog 43 #[.int .i64 0] w fun e w' => e = .returned (.agg #[hfun, hfun]) ∧ Below w.heap.size w w' := by
  have hone : (Value.func (.func 50) #[] #[]).oneCell' = true := rfl
  go_enter Try.func43, Try.ntmps43
  go_wp2_with fail
  refine bodyPost_ret (results_cell1 Try.results43 rfl (loadVar_blk (c := #[hfun, hfun]) (t' := 106) (fr := (0, 0)) ?_ Try.underlying106 rfl (by kernel_rfl))) rfl ?_
  · exact heap_alloc_last _ _
  · exact ⟨rfl, by (repeat (first | exact Below.refl _ _ | refine bg_al ?_ | refine bg_gr ?_ | refine bg_drn ?_ | refine bg_dr ?_ | assumption))⟩
theorem honest_any (vd va : Value) (cs : Array Value) (w : World) (R : Value → World → Prop) (h : Calls Try.prog 62 #[vd, va] (w.alloc (.cells cs 27)) fun e w' => ∃ r, e = .returned (.int .i64 r) ∧ R (.int .i64 r) w') :
    Calls Try.prog 50 #[vd, va, .agg cs] w fun e w' => ∃ r, e = .returned (.int .i64 r) ∧ R (.int .i64 r) w' := by
  have H := Lib.hid h
  clear h
  go_enter Try.func50, Try.ntmps50
  go_wp2_with (go_at_call 62; refine H.out.mono ?_; rintro en w1 ⟨r, rfl, hr⟩; have HR := Lib.hid hr; clear hr)
  go_ret
  exact ⟨r, rfl, HR.out⟩

/-- What stands when an access has been done, ahead of the notes on it. -/
structure AccIn (D A : Nat) (kind : Int) (na np : Nat) (ca cp : List Value) (W : World) (f : Fd) (N : Nat) (lA : Option Addr) (ln lc : Nat) : Prop where
  dev : DevAt W D f
  nb : f.nb = .map (some N)
  nl : f.nl = .slice lA ln lc
  racc : ∃ aA ac, f.acc = .slice aA na ac ∧ W.ownsRow 0 95 3 f.acc na ca
  rpast : ∃ pA pc, f.past = .slice pA np pc ∧ W.ownsRow 0 82 2 f.past np cp
  deed : ∃ q da ks n cnt tag, DeedAt W A kind q da ks n cnt tag

/-- .. and behind them. -/
def AccOut (D A : Nat) (kind r : Int) (na np : Nat) (ca cp : List Value) (ch : Bool) (Q : World → Fd → Prop) (w' : World) : Prop :=
  ∃ w2 f2 av pv, Q w2 f2 ∧ DevAt w2 D f2 ∧ DevAt w' D { f2 with acc := av, past := pv } ∧ w'.ownsRow 0 95 3 av (na + 1) (ca ++ [.int .i64 kind, .int .i64 0, .bool (r == 0)]) ∧
    w'.ownsRow 0 82 2 pv (if ch then np + 1 else np) (if ch then cp ++ [f2.nb, f2.nl] else cp) ∧
    Chg (fun k => k = D ∨ f2.acc.ownBlock = some k ∨ f2.past.ownBlock = some k) w2 w' ∧
    (av.ownBlock = f2.acc.ownBlock ∨ ∃ k, w2.heap.size ≤ k ∧ av.ownBlock = some k) ∧ (pv.ownBlock = f2.past.ownBlock ∨ ∃ k, w2.heap.size ≤ k ∧ pv.ownBlock = some k)
theorem ap_dev {w w' : World} {base : Nat} {e : TypeId} {size : Nat} {v v' : Value} {n m : Nat} {xs ys : List Value} {D : Nat} {f : Fd} (h : Appended w base e size v n xs w' v') (hv : w.ownsRow base e size v m ys) (he : e ≠ 84) (hD : DevAt w D f) : DevAt w' D f := by
  refine (h.2.1.block D (Array.getElem?_eq_some_iff.1 hD).1 (fun eq => ?_)).trans hD
  rcases hv.2 with ⟨rfl, _⟩ | ⟨g, cap, cur, rfl, _, hg, _⟩
  · simp [Value.ownBlock] at eq
  · simp only [Value.ownBlock, Option.some.injEq] at eq
    subst eq
    unfold DevAt at hD
    rw [hD] at hg
    injection hg with hg
    injection hg with _ hg
    exact he hg.symm
theorem row_ne_dev {w : World} {base : Nat} {e : TypeId} {size : Nat} {v : Value} {m : Nat} {ys : List Value} {D : Nat} {f : Fd} (hv : w.ownsRow base e size v m ys) (he : e ≠ 84) (hD : DevAt w D f) : ∀ k, v.ownBlock = some k → k ≠ D := by
  rintro k hk rfl
  rcases hv.2 with ⟨rfl, _⟩ | ⟨g, cap, cur, rfl, _, hg, _⟩
  · simp [Value.ownBlock] at hk
  · simp only [Value.ownBlock, Option.some.injEq] at hk
    subst hk
    unfold DevAt at hD
    rw [hD] at hg
    injection hg with hg
    injection hg with _ hg
    exact he hg.symm
theorem row_ne_row {w : World} {base base' : Nat} {e e' : TypeId} {size size' : Nat} {v v' : Value} {m m' : Nat} {ys ys' : List Value} (hv : w.ownsRow base e size v m ys) (hv' : w.ownsRow base' e' size' v' m' ys') (he : e ≠ e') : ∀ k, v.ownBlock = some k → v'.ownBlock ≠ some k := by
  intro k hk hk'
  rcases hv.2 with ⟨rfl, _⟩ | ⟨g, cap, cur, rfl, _, hg, _⟩
  · simp [Value.ownBlock] at hk
  · rcases hv'.2 with ⟨rfl, _⟩ | ⟨g', cap', cur', rfl, _, hg', _⟩
    · simp [Value.ownBlock] at hk'
    · simp only [Value.ownBlock, Option.some.injEq] at hk hk'
      subst hk hk'
      rw [hg] at hg'
      injection hg' with hg'
      injection hg' with _ hg'
      exact he hg'
theorem dev_set42 {w : World} {D : Nat} {f : Fd} (h : DevAt w D f) (v : Value) : DevAt (w.setCell ⟨D, 42, none⟩ v) D { f with nb := v } := by
  unfold DevAt
  rw [setCell_row h]
  congr 2
  apply Array.ext'
  rw [Array.toList_setIfInBounds]
  have e : ∀ (u : Value), devC { f with nb := u } = ([.int .i64 f.slots, .int .i64 f.room, f.bm, f.log, .int .i64 f.cnt] ++ f.tag.1.map bv ++ [.bool f.down, f.cho, f.acc, f.vers, f.past]) ++ u :: [f.nl] := fun u => by simp [devC]
  rw [show devC f = devC { f with nb := f.nb } from rfl, e f.nb, e v]
  show List.set _ 42 v = _
  rw [List.set_append_right _ _ (by simp [f.tag.2])]
  simp [f.tag.2]
theorem dev_set43 {w : World} {D : Nat} {f : Fd} (h : DevAt w D f) (v : Value) : DevAt (w.setCell ⟨D, 43, none⟩ v) D { f with nl := v } := by
  unfold DevAt
  rw [setCell_row h]
  congr 2
  apply Array.ext'
  rw [Array.toList_setIfInBounds]
  have e : ∀ (u : Value), devC { f with nl := u } = ([.int .i64 f.slots, .int .i64 f.room, f.bm, f.log, .int .i64 f.cnt] ++ f.tag.1.map bv ++ [.bool f.down, f.cho, f.acc, f.vers, f.past, f.nb]) ++ u :: [] := fun u => by simp [devC]
  rw [show devC f = devC { f with nl := f.nl } from rfl, e f.nl, e v]
  show List.set _ 43 v = _
  rw [List.set_append_right _ _ (by simp [f.tag.2])]
  simp [f.tag.2]
theorem dev_set41 {w : World} {D : Nat} {f : Fd} (h : DevAt w D f) (v : Value) : DevAt (w.setCell ⟨D, 41, none⟩ v) D { f with past := v } := by
  unfold DevAt
  rw [setCell_row h]
  congr 2
  apply Array.ext'
  rw [Array.toList_setIfInBounds]
  have e : ∀ (u : Value), devC { f with past := u } = ([.int .i64 f.slots, .int .i64 f.room, f.bm, f.log, .int .i64 f.cnt] ++ f.tag.1.map bv ++ [.bool f.down, f.cho, f.acc, f.vers]) ++ u :: [f.nb, f.nl] := fun u => by simp [devC]
  rw [show devC f = devC { f with past := f.past } from rfl, e f.past, e v]
  show List.set _ 41 v = _
  rw [List.set_append_right _ _ (by simp [f.tag.2])]
  simp [f.tag.2]
theorem dev_set39 {w : World} {D : Nat} {f : Fd} (h : DevAt w D f) (v : Value) : DevAt (w.setCell ⟨D, 39, none⟩ v) D { f with acc := v } := by
  unfold DevAt
  rw [setCell_row h]
  congr 2
  apply Array.ext'
  rw [Array.toList_setIfInBounds]
  have e : ∀ (u : Value), devC { f with acc := u } = ([.int .i64 f.slots, .int .i64 f.room, f.bm, f.log, .int .i64 f.cnt] ++ f.tag.1.map bv ++ [.bool f.down, f.cho]) ++ u :: [f.vers, f.past, f.nb, f.nl] := fun u => by simp [devC]
  rw [show devC f = devC { f with acc := f.acc } from rfl, e f.acc, e v]
  show List.set _ 39 v = _
  rw [List.set_append_right _ _ (by simp [f.tag.2])]
  simp [f.tag.2]

theorem AccIn.kind {D A : Nat} {kind : Int} {na np : Nat} {ca cp : List Value} {W : World} {f : Fd} {N : Nat} {lA : Option Addr} {ln lc : Nat} (h : AccIn D A kind na np ca cp W f N lA ln lc) : W.cell? ⟨A, 0, none⟩ = some (.int .i64 kind) := by
  obtain ⟨_, _, _, _, _, _, h⟩ := h.deed
  exact (deed_c h).1
theorem deed_not {w2 w3 : World} {D A : Nat} {kind : Int} {na np : Nat} {ca cp : List Value} {f : Fd} {N : Nat} {lA : Option Addr} {ln lc : Nat} (h : AccIn D A kind na np ca cp w2 f N lA ln lc) (hb : Below w2.heap.size w2 w3) : ∀ c t fr, w3.heap[A]? = some (.cells c t fr) → t ≠ 82 := by
  obtain ⟨_, _, _, _, _, _, h⟩ := h.deed
  have h3 := deed_bel h hb
  intro c t fr hc
  unfold DeedAt at h3
  rw [h3] at hc
  injection hc with hc
  injection hc with _ hc
  rw [← hc]
  decide
theorem acc_fin {D A : Nat} {kind r : Int} {na np np' : Nat} {ca cp cp' : List Value} {ch : Bool} {Q : World → Fd → Prop} {w2 w5 w9 : World} {f2 : Fd} {pv vo v9 : Value} {o : Obj} (hQ : Q w2 f2) (hd2 : DevAt w2 D f2) (hd5 : DevAt w5 D { f2 with past := pv }) (ha : f2.acc = vo)
    (hra : w5.ownsRow 0 95 3 vo na ca) (hrp : w5.ownsRow 0 82 2 pv np' cp') (hnp : np' = if ch then np + 1 else np) (hcp : cp' = if ch then cp ++ [f2.nb, f2.nl] else cp) (hc : Chg (fun k => k = D ∨ f2.acc.ownBlock = some k ∨ f2.past.ownBlock = some k) w2 w5)
    (hap : Appended (w5.alloc o).drew 0 95 3 vo (na + 1) (ca ++ [.int .i64 kind, .int .i64 0, .bool (r == 0)]) w9 v9) (hpn : pv.ownBlock = f2.past.ownBlock ∨ ∃ k, w2.heap.size ≤ k ∧ pv.ownBlock = some k) :
    AccOut D A kind r na np ca cp ch Q (w9.setCell ⟨D, 39, none⟩ v9) := by
  subst hnp hcp
  have hb5 : Below w5.heap.size w5 (w5.alloc o).drew := bg_dr (bg_al (Below.refl _ _))
  have hd9 := ap_dev hap (own_below hra hb5) (by decide) (dev_bel hd5 hb5)
  have hrp9 := own_chg (own_below hrp hb5) (grown_chg (S := fun k => vo.ownBlock = some k) (Chg.refl _ _) hap.2.1 (fun k hk => hk)) (fun k hk => row_ne_row hrp hra (by decide) k hk)
  refine ⟨w2, f2, v9, pv, hQ, hd2, dev_set39 hd9 v9, ?_, ?_, ?_, ?_, hpn⟩
  · exact own_chg (S := fun k => k = D) hap.1 (chg_set (S := fun k => k = D) (Chg.refl _ _) rfl _) (row_ne_dev hap.1 (by decide) hd9)
  · exact own_chg (S := fun k => k = D) hrp9 (chg_set (S := fun k => k = D) (Chg.refl _ _) rfl _) (row_ne_dev hrp9 (by decide) hd9)
  · refine chg_set (S := fun k => k = D ∨ f2.acc.ownBlock = some k ∨ f2.past.ownBlock = some k) (grown_chg (hc.trans (Below.chg _ hb5)) hap.2.1 (fun k hk => Or.inr (Or.inl (ha ▸ hk)))) (Or.inl rfl) _
  · rcases hap.2.2 with ⟨h, _⟩ | ⟨h, _⟩
    · exact Or.inl (h.trans (by rw [ha]))
    · refine Or.inr ⟨_, ?_, h⟩
      have h1 := hc.size
      have h2 := hb5.size
      omega
theorem past_fin {D A : Nat} {na np : Nat} {ca cp : List Value} {w2 w3 w9 : World} {f2 : Fd} {vo aA : Value} {g9 c9 : Nat} {o : Obj} (hd2 : DevAt w2 D f2) (hb3 : Below w2.heap.size w2 w3) (hp : f2.past = vo) (haa : f2.acc = aA)
    (hra : w3.ownsRow 0 95 3 aA na ca) (hrp : w3.ownsRow 0 82 2 vo np cp) (hap : Appended (w3.alloc o).drew 0 82 2 vo (np + 1) (cp ++ [f2.nb, f2.nl]) w9 (.slice (some ⟨g9, 0, none⟩) (np + 1) c9))
    (k0 : Int) (hk0 : w3.cell? ⟨A, 0, none⟩ = some (.int .i64 k0)) (hAk : ∀ c t fr, w3.heap[A]? = some (.cells c t fr) → t ≠ 82) (hAD : A ≠ D) (C : Nat) (hC : w3.heap[C]? = some (.cells #[.int .i64 0, .int .i64 0, .int .i64 0] 27 (0, 0))) (hCD : C ≠ D) :
    DevAt (w9.setCell ⟨D, 41, none⟩ (.slice (some ⟨g9, 0, none⟩) (np + 1) c9)) D { f2 with past := .slice (some ⟨g9, 0, none⟩) (np + 1) c9 } ∧
    (w9.setCell ⟨D, 41, none⟩ (.slice (some ⟨g9, 0, none⟩) (np + 1) c9)).ownsRow 0 95 3 aA na ca ∧
    (w9.setCell ⟨D, 41, none⟩ (.slice (some ⟨g9, 0, none⟩) (np + 1) c9)).ownsRow 0 82 2 (.slice (some ⟨g9, 0, none⟩) (np + 1) c9) (np + 1) (cp ++ [f2.nb, f2.nl]) ∧
    (w9.setCell ⟨D, 41, none⟩ (.slice (some ⟨g9, 0, none⟩) (np + 1) c9)).cell? ⟨A, 0, none⟩ = some (.int .i64 k0) ∧
    (w9.setCell ⟨D, 41, none⟩ (.slice (some ⟨g9, 0, none⟩) (np + 1) c9)).heap[C]? = some (.cells #[.int .i64 0, .int .i64 0, .int .i64 0] 27 (0, 0)) ∧
    Chg (fun k => k = D ∨ f2.acc.ownBlock = some k ∨ f2.past.ownBlock = some k) w2 (w9.setCell ⟨D, 41, none⟩ (.slice (some ⟨g9, 0, none⟩) (np + 1) c9)) ∧
    ((Value.slice (some ⟨g9, 0, none⟩) (np + 1) c9).ownBlock = f2.past.ownBlock ∨ ∃ k, w2.heap.size ≤ k ∧ (Value.slice (some ⟨g9, 0, none⟩) (np + 1) c9).ownBlock = some k) := by
  have hb5 : Below w3.heap.size w3 (w3.alloc o).drew := bg_dr (bg_al (Below.refl _ _))
  have hd9 := ap_dev hap (own_below hrp hb5) (by decide) (dev_bel (dev_bel hd2 hb3) hb5)
  have c9' : Chg (fun k => vo.ownBlock = some k) w3 w9 := grown_chg (Below.chg _ hb5) hap.2.1 (fun k hk => hk)
  have hra9 := own_chg hra c9' (fun k hk => row_ne_row hra hrp (by decide) k hk)
  have hA : ∃ c t fr, w3.heap[A]? = some (.cells c t fr) := by
    unfold World.cell? at hk0
    split at hk0
    · rename_i cs t fr h
      exact ⟨cs, t, fr, h⟩
    · cases hk0
  obtain ⟨c, t, fr, hA⟩ := hA
  have hAv : vo.ownBlock ≠ some A := fun e => by
    rcases hrp.2 with ⟨rfl, _⟩ | ⟨g, cap, cur, rfl, _, hg, _⟩
    · simp [Value.ownBlock] at e
    · simp only [Value.ownBlock, Option.some.injEq] at e
      subst e
      rw [hA] at hg
      injection hg with hg
      injection hg with _ hg
      exact hAk _ _ _ hA hg
  have hCv : vo.ownBlock ≠ some C := fun e => by
    rcases hrp.2 with ⟨rfl, _⟩ | ⟨g, cap, cur, rfl, _, hg, _⟩
    · simp [Value.ownBlock] at e
    · simp only [Value.ownBlock, Option.some.injEq] at e
      subst e
      rw [hC] at hg
      injection hg with hg
      injection hg with _ hg
      exact absurd hg (by decide)
  refine ⟨dev_set41 hd9 _, ?_, ?_, ?_, ?_, ?_, ?_⟩
  · exact own_chg (S := fun k => k = D) hra9 (chg_set (S := fun k => k = D) (Chg.refl _ _) rfl _) (row_ne_dev hra9 (by decide) hd9)
  · exact own_chg (S := fun k => k = D) hap.1 (chg_set (S := fun k => k = D) (Chg.refl _ _) rfl _) (row_ne_dev hap.1 (by decide) hd9)
  · rw [World.cell?_of_block ((heap_set_ne w9 _ hAD).trans (c9'.block A (Array.getElem?_eq_some_iff.1 hA).1 hAv))]
    exact hk0
  · exact ((heap_set_ne w9 _ hCD).trans (c9'.block C (Array.getElem?_eq_some_iff.1 hC).1 hCv)).trans hC
  · exact chg_set (S := fun k => k = D ∨ f2.acc.ownBlock = some k ∨ f2.past.ownBlock = some k) ((Below.chg _ hb3).trans (c9'.mono (fun k _ h => Or.inr (Or.inr (hp ▸ h))))) (Or.inl rfl) _
  · rcases hap.2.2 with ⟨h, _⟩ | ⟨h, _⟩
    · exact Or.inl (h.trans (by rw [hp]))
    · refine Or.inr ⟨_, ?_, h⟩
      have h1 := hb3.size
      have h2 := hb5.size
      omega
end Go.Proofs.Ytcbglojjbgenlaa
