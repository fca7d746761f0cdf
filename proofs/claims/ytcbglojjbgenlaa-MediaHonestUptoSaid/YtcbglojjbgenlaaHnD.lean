/- run, and the device's calls that go by it. Reg, SetReg, Put of a device that is not down: their walks. -/
import Derived.Test.YtcbglojjbgenlaaHnC
import Derived.Test.YtcbglojjbgenlaaMdD
namespace Go.Proofs.Ytcbglojjbgenlaa
open Go.RowKit Go.MapL Go.ChangeMaps Go.MapKept
set_option linter.unusedSimpArgs false
set_option linter.unusedVariables false
attribute [local go_sem] size_gr cell_gr frozen_gr setCell_gr gr_drew gr_drewN lt_k lt_kc le_k le_kc sub_kc nil29 nil28 nil49 mkmap size_setBlock cell_setB zd_size
attribute [local go_sem ↓] Go.wp_at_zero Go.wp_at_succ

/-- what is told -/
structure Tl where
  kind : Int
  q : H32
  xA : Option Addr
  xn : Nat
  xc : Nat
  kA : Option Addr
  kn : Nat
  kc : Nat
  n : Int
  cnt : Int
  tag : H32
abbrev Tl.da (t : Tl) : Value := .slice t.xA t.xn t.xc
abbrev Tl.ks (t : Tl) : Value := .slice t.kA t.kn t.kc
def tlC (t : Tl) : List Value := deedC t.kind t.q t.da t.ks t.n t.cnt t.tag
def tl0 : Tl := ⟨0, zero32, none, 0, 0, none, 0, 0, 0, 0, zero32⟩
theorem tl_len (t : Tl) : (tlC t).length = 69 := deed_len ..
theorem tl_one (t : Tl) : OneC (tlC t).toArray := deed_one _ _ _ _ _ _ _ rfl rfl
theorem tl_zero : Try.zeroCells86 = (tlC tl0).toArray := by
  rw [zeroDeed_is]
  rfl

/-- run, as its callers need it -/
def RunC (w : World) (D : Nat) (cells : List Value) (r : Int) (R : Tl → World → Prop) : Prop :=
  Calls Try.prog 32 #[.pointer (some ⟨D, 0, none⟩), .agg cells.toArray] w fun e w' => ∃ t, e = .returned (.tuple #[.agg (tlC t).toArray, .int .i64 r]) ∧ R t w'

noncomputable def runW (w : World) (cells : List Value) : World := (w.alloc (.cells cells.toArray 86)).alloc (.cells Try.zeroCells86 86)

set_option maxRecDepth 8000 in
theorem run_ok (D : Nat) (f : Fd) (kind n cnt : Int) (q tag : H32) (da ks : Value) (w : World) (hD : DevAt w D f) (hdn : f.down = false) (R : Tl → World → Prop)
    (hacc : Calls Try.prog 35 #[.pointer (some ⟨D, 0, none⟩), .pointer (some ⟨w.heap.size, 0, none⟩)] (runW w (deedC kind q da ks n cnt tag)) fun e w' => e = .returned (.int .i64 0) ∧
      ∃ t, w'.heap[w.heap.size]? = some (.cells (tlC t).toArray 86 (0, 0)) ∧ w'.heap[w.heap.size + 1]? = some (.cells Try.zeroCells86 86 (0, 0)) ∧ R t w') :
    RunC w D (deedC kind q da ks n cnt tag) 0 (fun t w' => ∃ w2, R t w2 ∧ w2.heap[w.heap.size + 1]? = some (.cells Try.zeroCells86 86 (0, 0)) ∧ w' = w2.setRow (w.heap.size + 1) (tlC t).toArray) := by
  have HD := Lib.hid hD
  have HDN := Lib.hid hdn
  have HA := Lib.hid hacc
  clear hD hdn hacc
  unfold RunC
  unfold runW at HA
  go_enter Try.func32, Try.ntmps32
  go_wp2_with (first
    | (go_at_call 34; refine (closed_live (dev_bel HD.out (by (repeat (first | exact Below.refl _ _ | refine bg_al ?_ | refine bg_gr ?_ | refine bg_drn ?_ | refine bg_dr ?_ | assumption)))) HDN.out).mono ?_; rintro en w1 ⟨rfl, rfl⟩)
    | (go_at_call 35; refine HA.out.mono ?_; rintro en w2 ⟨rfl, t, hd2, hz2, hR⟩; have HD2 := Lib.hid hd2; have HZ2 := Lib.hid hz2; have HR := Lib.hid hR; clear hd2 hz2 hR)
    | (refine wpList_load_mid rfl 86 _ rfl _ _ (by rfl) (tlC t) _ (range_blk HD2.out 0 _ (fun j v hj => by simpa using hj)) Try.underlying86 rfl (by rw [tl_len]; exact deedInfo) ?_)
    | (refine wl_store_row rfl 86 _ _ rfl (w.heap.size + 1) _ _ (by rfl) (by rfl) HZ2.out (by rw [List.size_toArray, tl_len]; exact deedInfo) (by rw [zd_size, List.size_toArray, tl_len]) (tl_one t) ?_))
  refine bodyPost_ret (results_run rfl (setRow_heap _ _ _ _ _ _ HZ2.out) (by rw [List.size_toArray, tl_len])) rfl ?_
  exact ⟨t, rfl, w2, HR.out, HZ2.out, rfl⟩

set_option maxRecDepth 8000 in
theorem run_no (D : Nat) (f : Fd) (r : Int) (hr : r ≠ 0) (kind n cnt : Int) (q tag : H32) (da ks : Value) (w : World) (hD : DevAt w D f) (hdn : f.down = false) (R : World → Prop)
    (hacc : Calls Try.prog 35 #[.pointer (some ⟨D, 0, none⟩), .pointer (some ⟨w.heap.size, 0, none⟩)] (runW w (deedC kind q da ks n cnt tag)) fun e w' => e = .returned (.int .i64 r) ∧
      w'.heap[w.heap.size + 1]? = some (.cells Try.zeroCells86 86 (0, 0)) ∧ R w') :
    RunC w D (deedC kind q da ks n cnt tag) r (fun t w' => t = tl0 ∧ ∃ w2, R w2 ∧ w2.heap[w.heap.size + 1]? = some (.cells Try.zeroCells86 86 (0, 0)) ∧ w' = w2.setRow (w.heap.size + 1) (tlC tl0).toArray) := by
  have HD := Lib.hid hD
  have HDN := Lib.hid hdn
  have HA := Lib.hid hacc
  have h0 : (r == 0) = false := by simpa using hr
  have h0' : ¬ r = 0 := hr
  clear hD hdn hacc hr
  unfold RunC
  unfold runW at HA
  go_enter Try.func32, Try.ntmps32
  go_wp2_with (first
    | (go_at_call 34; refine (closed_live (dev_bel HD.out (by (repeat (first | exact Below.refl _ _ | refine bg_al ?_ | refine bg_gr ?_ | refine bg_drn ?_ | refine bg_dr ?_ | assumption)))) HDN.out).mono ?_; rintro en w1 ⟨rfl, rfl⟩)
    | (go_at_call 35; refine HA.out.mono ?_; rintro en w2 ⟨rfl, hz2, hR⟩; have HZ2 := Lib.hid hz2; have HR := Lib.hid hR; clear hz2 hR)
    | (refine wl_store_row rfl 86 _ _ rfl (w.heap.size + 1) _ _ (by rfl) (by rfl) HZ2.out (by rw [zd_size]; exact deedInfo) rfl (by rw [tl_zero]; exact tl_one tl0) ?_))
  refine bodyPost_ret (results_run rfl (setRow_heap _ _ _ _ _ _ HZ2.out) zd_size) rfl ?_
  exact ⟨tl0, by rw [tl_zero]; rfl, rfl, w2, HR.out, HZ2.out, by rw [tl_zero]⟩

theorem st_tl (W : World) (g : Nat) (c : Array Value) (t : Tl) (hg : W.heap.size = g) (hc : c.size = 69) :
    (storeCells ⟨g, 0, none⟩ (tlC t) 0).run Try.prog (W.alloc (.cells c 86)) = .ok () (W.alloc (.cells (tlC t).toArray 86)) := by
  have := st_deed W g c (tlC t).toArray hg hc (by rw [List.size_toArray, tl_len]) (tl_one t)
  simpa using this
theorem tl_33 (t : Tl) : (tlC t)[33]? = some (.slice t.xA t.xn t.xc) := deed_33 ..
theorem tl_33g (t : Tl) (h : 33 < (tlC t).length) : (tlC t)[33] = .slice t.xA t.xn t.xc := deed_33g _ _ _ _ _ _ _ h
theorem tl_34 (t : Tl) : (tlC t)[34]? = some (.slice t.kA t.kn t.kc) := by
  unfold tlC deedC
  rw [List.getElem?_append_right (by simp), List.getElem?_append_right (by simp [t.q.2])]
  simp [t.q.2]
theorem tl_34g (t : Tl) (h : 34 < (tlC t).length) : (tlC t)[34] = .slice t.kA t.kn t.kc := by
  have := tl_34 t
  rw [List.getElem?_eq_getElem h] at this
  injection this
theorem range_tl (W : World) (g : Nat) (t : Tl) (hg : W.heap.size = g) : (W.alloc (.cells (tlC t).toArray 86)).rangeAt g 36 (regC t.cnt t.tag) := by
  subst hg
  refine range_blk (heap_alloc_last W _) 36 _ (fun j v hj => ?_)
  have e : tlC t = ([.int .i64 t.kind] ++ (t.q.1.map bv ++ [t.da, t.ks, .int .i64 t.n])) ++ regC t.cnt t.tag := by simp [tlC, deedC, regC]
  rw [List.getElem?_toArray, e, List.getElem?_append_right (by simp [t.q.2]), ← hj]
  congr 1
  simp [t.q.2]
attribute [local go_sem] st_tl tl_33 tl_33g tl_34 tl_34g tl_len

set_option maxRecDepth 8000 in
theorem read_walk (w : World) (D : Nat) (r : Int) (R : Tl → World → Prop) (l : Bs) (hr : RunC w D (deedC 5 zero32 (.slice none 0 0) (.slice none 0 0) 0 0 zero32) r R) (hR : ∀ t W, R t W → SB W t.da l) (hl : l.length ≤ 1048576) :
    Calls Try.prog 10 #[.pointer (some ⟨D, 0, none⟩)] w fun e w' => ∃ A c, e = .returned (.tuple #[.slice A l.length c, .int .i64 r]) ∧ ∃ t w1, R t w1 ∧ Below w1.heap.size w1 w' ∧ OwnB w' w1.heap.size (.slice A l.length c) l := by
  have HR := Lib.hid hr
  have HH := Lib.hid hR
  have HL := Lib.hid hl
  clear hr hR hl
  unfold RunC at HR
  go_enter Try.func10, Try.ntmps10
  go_wp2_with (first
    | (go_at_call 32; rw [deed_plain]; refine HR.out.mono ?_; rintro en w1 ⟨t, rfl, h1⟩; have H1 := Lib.hid h1; clear h1)
    | (go_at_call 33; refine (bclone_any _ l _ ((HH.out _ _ H1.out).below (by (repeat (first | exact Below.refl _ _ | refine bg_al ?_ | refine bg_gr ?_ | refine bg_drn ?_ | refine bg_dr ?_ | assumption)))) (by have := HL.out; omega)).mono ?_; rintro en w2 ⟨A2, c2, rfl, ho2, hb2⟩; obtain ⟨D2, rfl⟩ := gr_of_below hb2; clear hb2; have HO2 := Lib.hid ho2; clear ho2))
  go_ret2
  exact ⟨A2, c2, rfl, t, w1, H1.out, by (repeat (first | exact Below.refl _ _ | refine bg_al ?_ | refine bg_gr ?_ | refine bg_drn ?_ | refine bg_dr ?_ | assumption)), own_mono HO2.out (by simp)⟩

set_option maxHeartbeats 1000000 in
set_option maxRecDepth 8000 in
theorem get_walk (w : World) (D : Nat) (q : H32) (r : Int) (R : Tl → World → Prop) (l : Bs) (hr : RunC (w.alloc (.cells (q.1.map bv).toArray 33)) D (deedC 1 q (.slice none 0 0) (.slice none 0 0) 0 0 zero32) r R) (hR : ∀ t W, R t W → SB W t.da l) (hl : l.length ≤ 1048576) :
    Calls Try.prog 8 #[.pointer (some ⟨D, 0, none⟩), hv q] w fun e w' => ∃ A c, e = .returned (.tuple #[.slice A l.length c, .int .i64 r]) ∧ ∃ t w1, R t w1 ∧ Below w1.heap.size w1 w' ∧ OwnB w' w1.heap.size (.slice A l.length c) l := by
  have HR := Lib.hid hr
  have HH := Lib.hid hR
  have HL := Lib.hid hl
  clear hr hR hl
  unfold RunC at HR
  unfold hv
  go_enter Try.func8, Try.ntmps8
  go_wp2_with (first
    | (refine wpList_load_mid rfl 33 _ rfl _ _ (by rfl) (q.1.map bv) _ (range_hash _ _ q rfl) Try.underlying33 rfl (hash_info q) ?_)
    | (go_at_call 32; rw [deed_zero]; refine HR.out.mono ?_; rintro en w1 ⟨t, rfl, h1⟩; have H1 := Lib.hid h1; clear h1)
    | (go_at_call 33; refine (bclone_any _ l _ ((HH.out _ _ H1.out).below (by (repeat (first | exact Below.refl _ _ | refine bg_al ?_ | refine bg_gr ?_ | refine bg_drn ?_ | refine bg_dr ?_ | assumption)))) (by have := HL.out; omega)).mono ?_; rintro en w2 ⟨A2, c2, rfl, ho2, hb2⟩; obtain ⟨D2, rfl⟩ := gr_of_below hb2; clear hb2; have HO2 := Lib.hid ho2; clear ho2))
  go_ret2
  exact ⟨A2, c2, rfl, t, w1, H1.out, by (repeat (first | exact Below.refl _ _ | refine bg_al ?_ | refine bg_gr ?_ | refine bg_drn ?_ | refine bg_dr ?_ | assumption)), own_mono HO2.out (by simp)⟩

set_option maxRecDepth 8000 in
theorem delete_walk (w : World) (D : Nat) (q : H32) (r : Int) (R : Tl → World → Prop) (hr : RunC (w.alloc (.cells (q.1.map bv).toArray 33)) D (deedC 3 q (.slice none 0 0) (.slice none 0 0) 0 0 zero32) r R) :
    Calls Try.prog 13 #[.pointer (some ⟨D, 0, none⟩), hv q] w fun e w' => e = .returned (.int .i64 r) ∧ ∃ t w1, R t w1 ∧ Below w1.heap.size w1 w' := by
  have HR := Lib.hid hr
  clear hr
  unfold RunC at HR
  unfold hv
  go_enter Try.func13, Try.ntmps13
  go_wp2_with (first
    | (refine wpList_load_mid rfl 33 _ rfl _ _ (by rfl) (q.1.map bv) _ (range_hash _ _ q rfl) Try.underlying33 rfl (hash_info q) ?_)
    | (go_at_call 32; rw [deed_zero]; refine HR.out.mono ?_; rintro en w1 ⟨t, rfl, h1⟩; have H1 := Lib.hid h1; clear h1))
  go_ret
  exact ⟨rfl, t, w1, H1.out, by (repeat (first | exact Below.refl _ _ | refine bg_al ?_ | refine bg_gr ?_ | refine bg_drn ?_ | refine bg_dr ?_ | assumption))⟩

set_option maxRecDepth 8000 in
theorem append_walk (w : World) (D : Nat) (v : Value) (ld : Bs) (r : Int) (R : Tl → World → Prop) (hv : SB w v ld) (hl : ld.length ≤ 1099511627776)
    (hr : ∀ W A c, Below w.heap.size w W → OwnB W w.heap.size (.slice A ld.length c) ld → RunC W D (deedC 6 zero32 (.slice A ld.length c) (.slice none 0 0) 0 0 zero32) r R) :
    Calls Try.prog 14 #[.pointer (some ⟨D, 0, none⟩), v] w fun e w' => e = .returned (.int .i64 r) ∧ ∃ t w1, R t w1 ∧ Below w1.heap.size w1 w' := by
  have HR := Lib.hid hr
  have HV := Lib.hid hv
  have HL := Lib.hid hl
  clear hr hv hl
  unfold RunC at HR
  go_enter Try.func14, Try.ntmps14
  go_wp2_with (first
    | (go_at_call 33; refine (bclone_any _ ld _ (HV.out.below (by (repeat (first | exact Below.refl _ _ | refine bg_al ?_ | refine bg_gr ?_ | refine bg_drn ?_ | refine bg_dr ?_ | assumption)))) HL.out).mono ?_; rintro en w2 ⟨A2, c2, rfl, ho2, hb2⟩; have HB2 := Lib.hid hb2; clear hb2; have HO2 := Lib.hid ho2; clear ho2)
    | (go_at_call 32; rw [deed_data]; refine (HR.out _ _ _ HB2.out HO2.out).mono ?_; rintro en w1 ⟨t, rfl, h1⟩; have H1 := Lib.hid h1; clear h1))
  go_ret
  exact ⟨rfl, t, w1, H1.out, by (repeat (first | exact Below.refl _ _ | refine bg_al ?_ | refine bg_gr ?_ | refine bg_drn ?_ | refine bg_dr ?_ | assumption))⟩

set_option maxRecDepth 8000 in
theorem trim_walk (w : World) (D : Nat) (n : Int) (r : Int) (R : Tl → World → Prop) (hr : RunC w D (deedC 7 zero32 (.slice none 0 0) (.slice none 0 0) n 0 zero32) r R) :
    Calls Try.prog 15 #[.pointer (some ⟨D, 0, none⟩), .int .i64 n] w fun e w' => e = .returned (.int .i64 r) ∧ ∃ t w1, R t w1 ∧ Below w1.heap.size w1 w' := by
  have HR := Lib.hid hr
  clear hr
  unfold RunC at HR
  go_enter Try.func15, Try.ntmps15
  go_wp2_with (go_at_call 32; rw [deed_num]; refine HR.out.mono ?_; rintro en w1 ⟨t, rfl, h1⟩; have H1 := Lib.hid h1; clear h1)
  go_ret
  exact ⟨rfl, t, w1, H1.out, by (repeat (first | exact Below.refl _ _ | refine bg_al ?_ | refine bg_gr ?_ | refine bg_drn ?_ | refine bg_dr ?_ | assumption))⟩

set_option maxRecDepth 8000 in
theorem cut_walk (w : World) (D : Nat) (n : Int) (r : Int) (R : Tl → World → Prop) (hr : RunC w D (deedC 8 zero32 (.slice none 0 0) (.slice none 0 0) n 0 zero32) r R) :
    Calls Try.prog 16 #[.pointer (some ⟨D, 0, none⟩), .int .i64 n] w fun e w' => e = .returned (.int .i64 r) ∧ ∃ t w1, R t w1 ∧ Below w1.heap.size w1 w' := by
  have HR := Lib.hid hr
  clear hr
  unfold RunC at HR
  go_enter Try.func16, Try.ntmps16
  go_wp2_with (go_at_call 32; rw [deed_num]; refine HR.out.mono ?_; rintro en w1 ⟨t, rfl, h1⟩; have H1 := Lib.hid h1; clear h1)
  go_ret
  exact ⟨rfl, t, w1, H1.out, by (repeat (first | exact Below.refl _ _ | refine bg_al ?_ | refine bg_gr ?_ | refine bg_drn ?_ | refine bg_dr ?_ | assumption))⟩

set_option maxRecDepth 8000 in
theorem list_walk (w : World) (D : Nat) (r : Int) (R : Tl → World → Prop) (hr : RunC w D (deedC 4 zero32 (.slice none 0 0) (.slice none 0 0) 0 0 zero32) r R) :
    Calls Try.prog 9 #[.pointer (some ⟨D, 0, none⟩)] w fun e w' => ∃ t w1, e = .returned (.tuple #[t.ks, .int .i64 r]) ∧ R t w1 ∧ Below w1.heap.size w1 w' := by
  have HR := Lib.hid hr
  clear hr
  unfold RunC at HR
  go_enter Try.func9, Try.ntmps9
  go_wp2_with (go_at_call 32; rw [deed_plain]; refine HR.out.mono ?_; rintro en w1 ⟨t, rfl, h1⟩; have H1 := Lib.hid h1; clear h1)
  go_ret2
  exact ⟨t, w1, rfl, H1.out, by (repeat (first | exact Below.refl _ _ | refine bg_al ?_ | refine bg_gr ?_ | refine bg_drn ?_ | refine bg_dr ?_ | assumption))⟩
end Go.Proofs.Ytcbglojjbgenlaa
namespace Go.Proofs.Ytcbglojjbgenlaa
open Go.RowKit Go.MapL Go.ChangeMaps Go.MapKept
set_option linter.unusedSimpArgs false
set_option linter.unusedVariables false
attribute [local go_sem] size_gr cell_gr frozen_gr setCell_gr gr_drew gr_drewN lt_k lt_kc le_k le_kc sub_kc nil29 nil28 nil49 mkmap size_setBlock cell_setB zd_size st_tl tl_33 tl_33g tl_34 tl_34g tl_len
attribute [local go_sem ↓] Go.wp_at_zero Go.wp_at_succ

theorem deed_reg (c : Int) (t : H32) : List.foldl (fun cs x => cs.setIfInBounds (36 + x.2) x.1) ((Try.zeroCells86).setIfInBounds 0 (.int .i64 10)) (regC c t).zipIdx = (deedC 10 zero32 (.slice none 0 0) (.slice none 0 0) 0 c t).toArray := by
  rw [fold_set _ 36 0 _ (by simp [zd_size, regC, t.2])]
  rw [reg_len, zeroDeed_is]
  have e : deedC 10 zero32 (.slice none 0 0) (.slice none 0 0) 0 c t = ([.int .i64 10] ++ (zero32.1.map bv ++ [.slice none 0 0, .slice none 0 0, .int .i64 0])) ++ regC c t := by simp [deedC, regC]
  rw [e]
  have e2 : (zeroDeed.toArray.setIfInBounds 0 (.int .i64 10)).toList = ([.int .i64 10] ++ (zero32.1.map bv ++ [.slice none 0 0, .slice none 0 0, .int .i64 0])) ++ regC 0 zero32 := rfl
  rw [e2, List.take_append_of_le_length (by simp [zero32.2]), List.take_of_length_le (by simp [zero32.2]), List.drop_eq_nil_of_le (by simp [zero32.2, regC])]
  simp

theorem deed_regL {c : Int} {t : H32} {L : List Value} (h : regC c t = L) : List.foldl (fun cs x => cs.setIfInBounds (36 + x.2) x.1) ((Try.zeroCells86).setIfInBounds 0 (.int .i64 10)) L.zipIdx = (deedC 10 zero32 (.slice none 0 0) (.slice none 0 0) 0 c t).toArray := by
  rw [← h]
  exact deed_reg c t
theorem zreg_lit : ((#[.int .i64 0, .int .u8 0, .int .u8 0, .int .u8 0, .int .u8 0, .int .u8 0, .int .u8 0, .int .u8 0, .int .u8 0, .int .u8 0, .int .u8 0, .int .u8 0, .int .u8 0, .int .u8 0, .int .u8 0, .int .u8 0, .int .u8 0, .int .u8 0, .int .u8 0, .int .u8 0, .int .u8 0, .int .u8 0, .int .u8 0, .int .u8 0, .int .u8 0, .int .u8 0, .int .u8 0, .int .u8 0, .int .u8 0, .int .u8 0, .int .u8 0, .int .u8 0, .int .u8 0] : Array Value)) = (regC 0 zero32).toArray := rfl
set_option maxRecDepth 8000 in
theorem reg_walk (w : World) (D : Nat) (r : Int) (R : Tl → World → Prop) (hr : RunC (w.alloc (.cells (regC 0 zero32).toArray 39)) D (deedC 9 zero32 (.slice none 0 0) (.slice none 0 0) 0 0 zero32) r R)
    (hbox : ∀ t W, R t W → W.heap[w.heap.size]? = some (.cells (regC 0 zero32).toArray 39 (0, 0))) :
    Calls Try.prog 11 #[.pointer (some ⟨D, 0, none⟩)] w fun e w' => ∃ t w1, e = .returned (.tuple #[.agg (regC t.cnt t.tag).toArray, .int .i64 r]) ∧ R t w1 ∧ Chg (fun k => k = w.heap.size) w1 w' := by
  have HR := Lib.hid hr
  have HB := Lib.hid hbox
  have hzs : (regC 0 zero32).toArray.size = 33 := by rw [List.size_toArray, reg_len]
  clear hr hbox
  unfold RunC at HR
  go_enter Try.func11, Try.ntmps11
  go_wp2_with (first
    | (go_at_call 32; rw [deed_plain, zreg_lit]; refine HR.out.mono ?_; rintro en w1 ⟨t, rfl, h1⟩; have H1 := Lib.hid h1; have hrl := reg_len t.cnt t.tag; have HB1 := Lib.hid (HB.out t w1 h1); have hgl : w.heap.size < w1.heap.size := (Array.getElem?_eq_some_iff.1 HB1.out).1; clear h1)
    | (refine wpList_load_mid rfl 39 (.tmp 12) rfl _ _ (by rfl) (regC t.cnt t.tag) _ (range_tl _ _ t rfl) Try.underlying39 rfl (by rw [reg_len]; exact regInfo) ?_)
    | (refine wl_store_row rfl 39 _ _ rfl w.heap.size _ _ (by rfl) (by rfl) ((Below.heap_alloc _ _ _ hgl).trans HB1.out) (by rw [List.size_toArray, reg_len]; exact regInfo) (by rw [hzs, List.size_toArray, reg_len]) (reg_one _ _) ?_))
  refine bodyPost_ret (results_cellT Try.results11 rfl (loadVar_blk (setRow_heap _ _ _ _ _ (0, 0) ((Below.heap_alloc _ _ _ hgl).trans HB1.out)) Try.underlying39 rfl (by rw [List.size_toArray, reg_len]; exact regInfo))) rfl ?_
  refine ⟨t, w1, rfl, H1.out, setRow_chg (S := fun k => k = w.heap.size) (Below.chg _ (by (repeat (first | exact Below.refl _ _ | refine bg_al ?_ | refine bg_gr ?_ | refine bg_drn ?_ | refine bg_dr ?_ | assumption)))) (Or.inl rfl) _⟩

set_option maxRecDepth 8000 in
theorem setreg_bad (w : World) (D : Nat) (f : Fd) (hD : DevAt w D f) (hdn : f.down = false) (c : Int) (t : H32) (hc : c < 1 ∨ 1099511627776 < c) :
    Calls Try.prog 17 #[.pointer (some ⟨D, 0, none⟩), .agg (regC c t).toArray] w fun e w' => e = .returned (.int .i64 2) ∧ Below w.heap.size w w' := by
  have HD := Lib.hid hD
  have HDN := Lib.hid hdn
  have hc0 : ∀ W : World, (W.alloc (.cells (regC c t).toArray 39)).cell? ⟨W.heap.size, 0, none⟩ = some (.int .i64 c) := fun W => by
    rw [cell_of_row _ _ _ _ _ _ (heap_alloc_last W _)]; rfl
  by_cases h1 : c < 1
  · clear hc hD hdn
    go_enter Try.func17, Try.ntmps17
    go_wp2_with (go_at_call 34; refine (closed_live (dev_bel HD.out (by (repeat (first | exact Below.refl _ _ | refine bg_al ?_ | refine bg_gr ?_ | refine bg_drn ?_ | refine bg_dr ?_ | assumption)))) HDN.out).mono ?_; rintro en w1 ⟨rfl, rfl⟩)
    go_ret
    exact ⟨rfl, by (repeat (first | exact Below.refl _ _ | refine bg_al ?_ | refine bg_gr ?_ | refine bg_drn ?_ | refine bg_dr ?_ | assumption))⟩
  · have h2 : 1099511627776 < c := hc.resolve_left h1
    clear hc hD hdn
    go_enter Try.func17, Try.ntmps17
    go_wp2_with (go_at_call 34; refine (closed_live (dev_bel HD.out (by (repeat (first | exact Below.refl _ _ | refine bg_al ?_ | refine bg_gr ?_ | refine bg_drn ?_ | refine bg_dr ?_ | assumption)))) HDN.out).mono ?_; rintro en w1 ⟨rfl, rfl⟩)
    go_ret
    exact ⟨rfl, by (repeat (first | exact Below.refl _ _ | refine bg_al ?_ | refine bg_gr ?_ | refine bg_drn ?_ | refine bg_dr ?_ | assumption))⟩

set_option maxHeartbeats 1000000 in
set_option maxRecDepth 8000 in
theorem setreg_walk (w : World) (D : Nat) (f : Fd) (hD : DevAt w D f) (hdn : f.down = false) (c : Int) (t : H32) (h1 : 1 ≤ c) (h2 : c ≤ 1099511627776) (r : Int) (R : World → Prop)
    (hacc : ∀ W X, Below w.heap.size w W → w.heap.size ≤ X → DeedAt W X 10 zero32 (.slice none 0 0) (.slice none 0 0) 0 c t → Calls Try.prog 35 #[.pointer (some ⟨D, 0, none⟩), .pointer (some ⟨X, 0, none⟩)] W fun e w' => e = .returned (.int .i64 r) ∧ R w') :
    Calls Try.prog 17 #[.pointer (some ⟨D, 0, none⟩), .agg (regC c t).toArray] w fun e w' => e = .returned (.int .i64 r) ∧ R w' := by
  have HD := Lib.hid hD
  have HDN := Lib.hid hdn
  have HA := Lib.hid hacc
  obtain ⟨L, hL⟩ : ∃ L, regC c t = L := ⟨_, rfl⟩
  have hc0 : ∀ W : World, (W.alloc (.cells L.toArray 39)).cell? ⟨W.heap.size, 0, none⟩ = some (.int .i64 c) := fun W => by
    rw [cell_of_row _ _ _ _ _ _ (heap_alloc_last W _), ← hL]; rfl
  have h1' : ¬ c < 1 := by omega
  have h2' : ¬ 1099511627776 < c := by omega
  have hrl : L.length = 33 := by rw [← hL]; exact reg_len c t
  have HRG : Hid (∀ W : World, (W.alloc (.cells L.toArray 39)).rangeAt W.heap.size 0 L) := Lib.hid (fun W => range_blk (heap_alloc_last W _) 0 _ (fun j v hv => by simpa using hv))
  have HL := Lib.hid hL
  rw [hL]
  clear hD hdn hacc h1 h2 hL
  go_enter Try.func17, Try.ntmps17
  go_wp2_with (first
    | (go_at_call 34; refine (closed_live (dev_bel HD.out (by (repeat (first | exact Below.refl _ _ | refine bg_al ?_ | refine bg_gr ?_ | refine bg_drn ?_ | refine bg_dr ?_ | assumption)))) HDN.out).mono ?_; rintro en w1 ⟨rfl, rfl⟩)
    | (refine wpList_load_mid rfl 39 _ rfl _ _ (by rfl) L _ (HRG.out _) Try.underlying39 rfl (by rw [hrl]; exact regInfo) ?_)
    | (go_at_call 35; rw [deed_regL HL.out]; refine (HA.out _ (w.heap.size + 1) (by (repeat (first | exact Below.refl _ _ | refine bg_al ?_ | refine bg_gr ?_ | refine bg_drn ?_ | refine bg_dr ?_ | assumption))) (by omega) (by unfold DeedAt; rw [show w.heap.size + 1 = (w.alloc (.cells L.toArray 39)).heap.size from by simp]; exact heap_alloc_last _ _)).mono ?_; rintro en w3 ⟨rfl, h3⟩; have H3 := Lib.hid h3; clear h3))
  go_ret
  exact ⟨rfl, H3.out⟩

set_option maxRecDepth 8000 in
theorem put_long (w : World) (D : Nat) (f : Fd) (hD : DevAt w D f) (hdn : f.down = false) (q : H32) (v : Value) (l : Bs) (hv : SB w v l) (hl : 1024 < l.length) :
    Calls Try.prog 12 #[.pointer (some ⟨D, 0, none⟩), .agg (q.1.map bv).toArray, v] w fun e w' => e = .returned (.int .i64 2) ∧ Below w.heap.size w w' := by
  have HD := Lib.hid hD
  have HDN := Lib.hid hdn
  obtain ⟨vA, vc, rfl, -⟩ := hv
  have hlen : (1024 : Int) < (l.length : Int) := by omega
  clear hD hdn hl
  go_enter Try.func12, Try.ntmps12
  go_wp2_with (go_at_call 34; refine (closed_live (dev_bel HD.out (by (repeat (first | exact Below.refl _ _ | refine bg_al ?_ | refine bg_gr ?_ | refine bg_drn ?_ | refine bg_dr ?_ | assumption)))) HDN.out).mono ?_; rintro en w1 ⟨rfl, rfl⟩)
  go_ret
  exact ⟨rfl, by (repeat (first | exact Below.refl _ _ | refine bg_al ?_ | refine bg_gr ?_ | refine bg_drn ?_ | refine bg_dr ?_ | assumption))⟩

set_option maxHeartbeats 1000000 in
set_option maxRecDepth 8000 in
theorem put_walk (w : World) (D : Nat) (f : Fd) (hD : DevAt w D f) (hdn : f.down = false) (q : H32) (v : Value) (l : Bs) (hv0 : SB w v l) (hls : l.length ≤ 1024) (r : Int) (R : World → Prop)
    (hacc : ∀ W X A c, Below w.heap.size w W → w.heap.size ≤ X → OwnB W w.heap.size (.slice A l.length c) l → DeedAt W X 2 q (.slice A l.length c) (.slice none 0 0) 0 0 zero32 → Calls Try.prog 35 #[.pointer (some ⟨D, 0, none⟩), .pointer (some ⟨X, 0, none⟩)] W fun e w' => e = .returned (.int .i64 r) ∧ R w' ∧ ∀ k, w.heap.size ≤ k → k < W.heap.size → k ≠ X → ¬ isBytes W k → w'.heap[k]? = W.heap[k]?) :
    Calls Try.prog 12 #[.pointer (some ⟨D, 0, none⟩), .agg (q.1.map bv).toArray, v] w fun e w' => e = .returned (.int .i64 r) ∧ R w' := by
  have HP := Lib.hid hacc
  have HD := Lib.hid hD
  have HDN := Lib.hid hdn
  have HV := Lib.hid hv0
  have HL := Lib.hid hls
  have hlen : ¬ (1024 : Int) < (l.length : Int) := by omega
  obtain ⟨vA, vc, rfl, -⟩ := hv0
  have hq32 : q.1.length = 32 := q.2
  have hfs : (List.foldl (fun cs x => cs.setIfInBounds (1 + x.2) x.1) ((Try.zeroCells86).setIfInBounds 0 (.int .i64 2)) (q.1.map bv).zipIdx).size = 69 := by rw [deed_zero]; exact deed_sz ..
  have hql := q_len q
  have hqu := Try.underlying33
  have hqi := hash_info q
  clear hls hD hdn hacc
  go_enter Try.func12, Try.ntmps12
  go_wp2_with (first
    | (go_at_call 34; refine (closed_live (dev_bel HD.out (by (repeat (first | exact Below.refl _ _ | refine bg_al ?_ | refine bg_gr ?_ | refine bg_drn ?_ | refine bg_dr ?_ | assumption)))) HDN.out).mono ?_; rintro en w1 ⟨rfl, rfl⟩))
  go_region_held3 (fun W => W.rangeAt w.heap.size 0 (q.1.map bv))
    (first | exact HK9.out | exact range_bel (range_hash w _ q rfl) (by (repeat (first | exact Below.refl _ _ | refine bg_al ?_ | refine bg_gr ?_ | refine bg_drn ?_ | refine bg_dr ?_ | assumption))))
    (first
      | (go_at_call 33; refine (bclone_any _ l _ (HV.out.below (by (repeat (first | exact Below.refl _ _ | refine bg_al ?_ | refine bg_gr ?_ | refine bg_drn ?_ | refine bg_dr ?_ | assumption)))) (by have := HL.out; omega)).mono ?_; rintro en w2 ⟨A2, c2, rfl, ho2, hb2⟩; obtain ⟨D2, rfl⟩ := gr_of_below hb2; clear hb2; have HO2 := Lib.hid ho2; clear ho2)
      | (go_at_call 35; rw [deed_put]; refine (HP.out _ (w.heap.size + 1 + D2.k) A2 c2 (by (repeat (first | exact Below.refl _ _ | refine bg_al ?_ | refine bg_gr ?_ | refine bg_drn ?_ | refine bg_dr ?_ | assumption))) (by omega) ((HO2.out.below (by (repeat (first | exact Below.refl _ _ | refine bg_al ?_ | refine bg_gr ?_ | refine bg_drn ?_ | refine bg_dr ?_ | assumption)))).mono (by simp)) (by unfold DeedAt; rw [show w.heap.size + 1 + D2.k = ((w.alloc (.cells (q.1.map bv).toArray 33)).gr D2).heap.size from by simp [size_gr]]; exact heap_alloc_last _ _)).mono ?_; rintro en w3 ⟨rfl, hR3, hk3⟩; have HR3 := Lib.hid hR3; have HK9 := Lib.hid (show w3.rangeAt w.heap.size 0 (q.1.map bv) from fun j v hv => by
          have hh : ((((w.alloc (.cells (q.1.map bv).toArray 33)).gr D2).alloc (.cells (deedC 2 q (.slice A2 l.length c2) (.slice none 0 0) 0 0 zero32).toArray 86))).heap[w.heap.size]? = some (.cells (q.1.map bv).toArray 33 (0, 0)) := by
            rw [Below.heap_alloc _ _ _ (by simp [size_gr]; omega), (below_gr _ D2).block _ (by simp), heap_alloc_last]
          rw [World.cell?_of_block (hk3 w.heap.size (Nat.le_refl _) (by simp [size_gr]; omega) (by omega) (by
            rintro ⟨cs, fr, h⟩
            rw [hh] at h
            injection h with h
            injection h with _ h
            exact absurd h (by decide)))]
          exact range_bel (range_hash w _ q rfl) (by (repeat (first | exact Below.refl _ _ | refine bg_al ?_ | refine bg_gr ?_ | refine bg_drn ?_ | refine bg_dr ?_ | assumption))) j v hv); clear hR3 hk3))
  go_wp2_with fail
  go_ret
  exact ⟨rfl, HR3.out⟩
end Go.Proofs.Ytcbglojjbgenlaa
