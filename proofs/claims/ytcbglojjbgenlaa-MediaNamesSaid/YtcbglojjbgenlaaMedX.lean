/- An awake device's Put. -/
import Derived.Test.YtcbglojjbgenlaaMedW
namespace Go.Proofs.Ytcbglojjbgenlaa
open Go.RowKit Go.MapL Go.ChangeMaps Go.MapKept
set_option linter.unusedSimpArgs false
set_option linter.unusedVariables false
attribute [local go_sem] size_gr cell_gr frozen_gr setCell_gr gr_drew gr_drewN lt_k lt_kc le_k le_kc sub_kc nil29 nil28 nil49 mkmap size_setBlock cell_setB st_deedS deed_33 deed_33g deed_len zd_size
attribute [local go_sem ↓] Go.wp_at_zero Go.wp_at_succ

theorem deed_put (q : H32) (v : Value) : (List.foldl (fun cs x => cs.setIfInBounds (1 + x.2) x.1) ((Try.zeroCells86).setIfInBounds 0 (.int .i64 2)) (q.1.map bv).zipIdx).setIfInBounds 33 v = (deedC 2 q v (.slice none 0 0) 0 0 zero32).toArray := by
  rw [deed_zero]
  apply Array.ext'
  rw [Array.toList_setIfInBounds]
  have e : ∀ (u : Value), deedC 2 q u (.slice none 0 0) 0 0 zero32 = ([.int .i64 2] ++ q.1.map bv) ++ u :: ([.slice none 0 0, .int .i64 0, .int .i64 0] ++ zero32.1.map bv) := fun u => by simp [deedC]
  rw [e (.slice none 0 0), e v]
  show List.set _ 33 v = _
  rw [List.set_append_right _ _ (by simp [q.2])]
  simp [q.2]

set_option maxHeartbeats 1000000 in
set_option maxRecDepth 8000 in
theorem put_live {w : World} {D : Nat} {F : Nat → Prop} {d : Dv} {q : H32} {l : Bs} {v : Value} (h : Awake w D F d) (hdn : d.down = false) (hv0 : SB w v l) (hls : l.length ≤ 1024) (hno : d.blobs q = none) (hroom : (d.n : Int) < d.slots) (hfew : d.acc.length < 1099511627776 ∧ d.past.length < 1099511627776 ∧ ∀ q, (d.vers q).length < 1099511627776) :
    Calls Try.prog 12 #[.pointer (some ⟨D, 0, none⟩), hv q, v] w fun e w' => e = .returned (.int .i64 0) ∧
      Awake w' D (Grown F w w') { d with blobs := updO d.blobs q (some l), n := d.n + 1, vers := updL d.vers q (d.vers q ++ [l]), acc := d.acc ++ [(2, 0, true)], past := d.past ++ [⟨updO (fun _ => none) q (some (d.blobs q)), 1, d.log⟩] } ∧ Byk w w' ∧ Chg F w w' := by
  obtain ⟨f, hD, hfd⟩ := h.dev
  have HP := Lib.hid (fun (W : World) (X : Nat) (A : Option Addr) (c : Nat) (hb : Below w.heap.size w W) (ho : OwnB W w.heap.size (.slice A l.length c) l) (hX : DeedAt W X 2 q (.slice A l.length c) (.slice none 0 0) 0 0 zero32) =>
    acc_put ((h.below hb).mono (F' := fun k => F k ∨ (w.heap.size ≤ k ∧ isBytes W k)) (fun k hk => Or.inl hk) (fun k hk => hk.elim (fun hk => Nat.lt_of_lt_of_le (h.fit k hk) hb.size) (fun ⟨_, cs, fr, hk⟩ => (Array.getElem?_eq_some_iff.1 hk).1))) hX
      ⟨ho.sb, fun k hk => by obtain ⟨h1, h2, h3⟩ := own_vBlock ho k hk; exact ⟨Or.inr ⟨h1, h3⟩, h3⟩⟩ hno hroom hfew)
  have HD := Lib.hid hD
  have HDN := Lib.hid (hfd.trans hdn)
  have HV := Lib.hid hv0
  have HF := Lib.hid h.fit
  have HL := Lib.hid hls
  have hlen : ¬ (1024 : Int) < (l.length : Int) := by omega
  obtain ⟨vA, vc, rfl, -⟩ := hv0
  have hq32 : q.1.length = 32 := q.2
  have hfs : (List.foldl (fun cs x => cs.setIfInBounds (1 + x.2) x.1) ((Try.zeroCells86).setIfInBounds 0 (.int .i64 2)) (q.1.map bv).zipIdx).size = 69 := by rw [deed_zero]; exact deed_sz ..
  have hql := q_len q
  have hqu := Try.underlying33
  have hqi := hash_info q
  clear h hdn hls hno hroom hfew hD hfd
  unfold hv
  go_enter Try.func12, Try.ntmps12
  go_wp2_with (first
    | (go_at_call 34; refine (closed_live (dev_bel HD.out (by (repeat (first | exact Below.refl _ _ | refine bg_al ?_ | refine bg_gr ?_ | refine bg_drn ?_ | refine bg_dr ?_ | assumption)))) HDN.out).mono ?_; rintro en w1 ⟨rfl, rfl⟩))
  go_region_held3 (fun W => W.rangeAt w.heap.size 0 (q.1.map bv))
    (first | exact HK9.out | exact range_bel (range_hash w _ q rfl) (by (repeat (first | exact Below.refl _ _ | refine bg_al ?_ | refine bg_gr ?_ | refine bg_drn ?_ | refine bg_dr ?_ | assumption))))
    (first
      | (go_at_call 33; refine (bclone_any _ l _ (HV.out.below (by (repeat (first | exact Below.refl _ _ | refine bg_al ?_ | refine bg_gr ?_ | refine bg_drn ?_ | refine bg_dr ?_ | assumption)))) (by have := HL.out; omega)).mono ?_; rintro en w2 ⟨A2, c2, rfl, ho2, hb2⟩; obtain ⟨D2, rfl⟩ := gr_of_below hb2; clear hb2; have HO2 := Lib.hid ho2; clear ho2)
      | (go_at_call 35; rw [deed_put]; refine (HP.out _ (w.heap.size + 1 + D2.k) A2 c2 (by (repeat (first | exact Below.refl _ _ | refine bg_al ?_ | refine bg_gr ?_ | refine bg_drn ?_ | refine bg_dr ?_ | assumption))) ((HO2.out.below (by (repeat (first | exact Below.refl _ _ | refine bg_al ?_ | refine bg_gr ?_ | refine bg_drn ?_ | refine bg_dr ?_ | assumption)))).mono (by simp)) (by unfold DeedAt; rw [show w.heap.size + 1 + D2.k = ((w.alloc (.cells (q.1.map bv).toArray 33)).gr D2).heap.size from by simp [size_gr]]; exact heap_alloc_last _ _)).mono ?_; rintro en w3 ⟨rfl, hA3, hc3⟩; have HA3 := Lib.hid hA3; have HC3 := Lib.hid hc3; have HK9 := Lib.hid (range_chg (range_bel (range_hash w _ q rfl) (by (repeat (first | exact Below.refl _ _ | refine bg_al ?_ | refine bg_gr ?_ | refine bg_drn ?_ | refine bg_dr ?_ | assumption)))) hc3 (by
          rintro ⟨(hk | ⟨_, hk⟩) | hk, hnb⟩
          · exact absurd (HF.out _ hk) (Nat.lt_irrefl _)
          · exact hnb hk
          · omega)); clear hA3 hc3))
  go_wp2_with fail
  go_ret
  have hbW : Below w.heap.size w (((w.alloc (.cells (q.1.map bv).toArray 33)).gr D2).alloc (.cells (deedC 2 q (.slice A2 l.length c2) (.slice none 0 0) 0 0 zero32).toArray 86)) := by (repeat (first | exact Below.refl _ _ | refine bg_al ?_ | refine bg_gr ?_ | refine bg_drn ?_ | refine bg_dr ?_ | assumption))
  have hby := (Byk.below hbW).trans (Byk.of HC3.out (fun k hk => hk.2))
  have hcF : Chg F w w3 := ((Below.chg (fun k => F k ∨ w.heap.size ≤ k) hbW).trans (HC3.out.mono (fun k _ hk => by
    rcases hk.1 with (h | h) | h
    · exact Or.inl h
    · exact Or.inr h.1
    · exact Or.inr (by omega)))).mono (fun k hk h => h.elim id (fun h => by omega))
  refine ⟨rfl, HA3.out.mono (fun k hk => ?_) (fun k hk => ?_), hby, hcF⟩
  · rcases hk with (hk | hk) | hk
    · exact Or.inl hk
    · obtain ⟨h1, cs, fr, h2⟩ := hk
      have h3 := (Array.getElem?_eq_some_iff.1 h2).1
      exact Or.inr ⟨h1, by have := HC3.out.size; omega⟩
    · exact Or.inr ⟨by have := hk.1; have := hbW.size; omega, hk.2⟩
  · rcases hk with hk | hk
    · have := HF.out k hk; have := hby.size; omega
    · exact hk.2
end Go.Proofs.Ytcbglojjbgenlaa
