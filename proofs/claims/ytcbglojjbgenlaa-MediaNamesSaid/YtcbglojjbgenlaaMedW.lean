/- An awake device's calls. -/
import Derived.Test.YtcbglojjbgenlaaMedV
namespace Go.Proofs.Ytcbglojjbgenlaa
open Go.RowKit Go.MapL Go.ChangeMaps Go.MapKept
set_option linter.unusedSimpArgs false
set_option linter.unusedVariables false
attribute [local go_sem] size_gr cell_gr frozen_gr setCell_gr gr_drew gr_drewN lt_k lt_kc le_k le_kc sub_kc nil29 nil28 nil49 mkmap size_setBlock cell_setB st_deedS deed_33 deed_33g deed_len zd_size
attribute [local go_sem ↓] Go.wp_at_zero Go.wp_at_succ

theorem Byk.rt {w w' : World} {v : Value} {l : Bs} (h : DB w (fun _ => True) v l) (hb : Byk w w') : DB w' (fun _ => True) v l := Byk.db h hb
theorem db_below {w w' : World} {v : Value} {l : Bs} (h : DB w (fun _ => True) v l) (hb : Below w.heap.size w w') : DB w' (fun _ => True) v l := Byk.db h (Byk.below hb)

set_option maxRecDepth 8000 in
theorem read_live {w : World} {D : Nat} {F : Nat → Prop} {d : Dv} (h : Awake w D F d) (hdn : d.down = false) (hfew : d.acc.length < 1099511627776) :
    Calls Try.prog 10 #[.pointer (some ⟨D, 0, none⟩)] w fun e w' => ∃ A c, e = .returned (.tuple #[.slice A d.log.length c, .int .i64 0]) ∧ DB w' (fun _ => True) (.slice A d.log.length c) d.log ∧ Awake w' D (Grown F w w') { d with acc := d.acc ++ [(5, 0, true)] } ∧ Byk w w' ∧ Chg F w w' := by
  have HR := Lib.hid (run_read h hdn hfew)
  have HL := Lib.hid h.low
  have HF := Lib.hid h.fit
  clear h hdn hfew
  go_enter Try.func10, Try.ntmps10
  go_wp2_with (first
    | (go_at_call 32; rw [deed_plain]; refine HR.out.mono ?_; rintro en w1 ⟨xA, xn, xc, rfl, hA1, hs1, hb1, hf1⟩; have HF1 := Lib.hid hf1; clear hf1; have HA1 := Lib.hid hA1; have HS1 := Lib.hid hs1; have HB1 := Lib.hid hb1; clear hA1 hs1 hb1)
    | (go_at_call 33; refine (bclone_any _ d.log _ ((HS1.out.1).below (by (repeat (first | exact Below.refl _ _ | refine bg_al ?_ | refine bg_gr ?_ | refine bg_drn ?_ | refine bg_dr ?_ | assumption)))) (by have := HL.out; omega)).mono ?_; rintro en w2 ⟨A2, c2, rfl, ho2, hb2⟩; obtain ⟨D2, rfl⟩ := gr_of_below hb2; clear hb2; have HO2 := Lib.hid ho2; clear ho2))
  go_ret2
  have hbw : Below w1.heap.size w1 ((w1.alloc (.cells (deedC 5 zero32 (.slice xA xn xc) (.slice none 0 0) 0 0 zero32).toArray 86)).gr D2) := by (repeat (first | exact Below.refl _ _ | refine bg_al ?_ | refine bg_gr ?_ | refine bg_drn ?_ | refine bg_dr ?_ | assumption))
  have hby := HB1.out.trans (Byk.below hbw)
  have hcF := HF1.out.trans (Below.chg F hbw)
  refine ⟨A2, c2, rfl, DB.own HO2.out (fun _ _ _ => trivial), (HA1.out.below hbw).mono (fun k hk => ?_) (fun k hk => ?_), hby, hcF⟩
  · rcases hk with hk | hk
    · exact Or.inl hk
    · exact Or.inr ⟨hk.1, by have := hbw.size; omega⟩
  · rcases hk with hk | hk
    · have := HF.out k hk; have := hby.size; omega
    · exact hk.2

set_option maxHeartbeats 1000000 in
set_option maxRecDepth 8000 in
theorem get_live {w : World} {D : Nat} {F : Nat → Prop} {d : Dv} {q : H32} {l : Bs} (h : Awake w D F d) (hdn : d.down = false) (hl : d.blobs q = some l) (hls : l.length ≤ 1048576) (hfew : d.acc.length < 1099511627776) :
    Calls Try.prog 8 #[.pointer (some ⟨D, 0, none⟩), hv q] w fun e w' => ∃ A c, e = .returned (.tuple #[.slice A l.length c, .int .i64 0]) ∧ DB w' (fun _ => True) (.slice A l.length c) l ∧ Awake w' D (Grown F w w') { d with acc := d.acc ++ [(1, 0, true)] } ∧ Byk w w' ∧ Chg F w w' := by
  have hb0 : Below w.heap.size w (w.alloc (.cells (q.1.map bv).toArray 33)) := by (repeat (first | exact Below.refl _ _ | refine bg_al ?_ | refine bg_gr ?_ | refine bg_drn ?_ | refine bg_dr ?_ | assumption))
  have HR := Lib.hid (run_get (h.below hb0) hdn hl hfew)
  have HL := Lib.hid hls
  have HF := Lib.hid h.fit
  have HB0 := Lib.hid (Byk.below hb0)
  have HBB := Lib.hid hb0
  clear h hdn hfew hl hls hb0
  unfold hv
  go_enter Try.func8, Try.ntmps8
  go_wp2_with (first
    | (refine wpList_load_mid rfl 33 _ rfl _ _ (by rfl) (q.1.map bv) _ (range_hash _ _ q rfl) Try.underlying33 rfl (hash_info q) ?_)
    | (go_at_call 32; rw [deed_zero]; refine HR.out.mono ?_; rintro en w1 ⟨xA, xn, xc, rfl, hA1, hs1, hb1, hf1⟩; have HF1 := Lib.hid hf1; clear hf1; have HA1 := Lib.hid hA1; have HS1 := Lib.hid hs1; have HB1 := Lib.hid hb1; clear hA1 hs1 hb1)
    | (go_at_call 33; refine (bclone_any _ l _ ((HS1.out.1).below (by (repeat (first | exact Below.refl _ _ | refine bg_al ?_ | refine bg_gr ?_ | refine bg_drn ?_ | refine bg_dr ?_ | assumption)))) (by have := HL.out; omega)).mono ?_; rintro en w2 ⟨A2, c2, rfl, ho2, hb2⟩; obtain ⟨D2, rfl⟩ := gr_of_below hb2; clear hb2; have HO2 := Lib.hid ho2; clear ho2))
  go_ret2
  have hbw : Below w1.heap.size w1 ((w1.alloc (.cells (deedC 1 q (.slice xA xn xc) (.slice none 0 0) 0 0 zero32).toArray 86)).gr D2) := by (repeat (first | exact Below.refl _ _ | refine bg_al ?_ | refine bg_gr ?_ | refine bg_drn ?_ | refine bg_dr ?_ | assumption))
  have hby := (HB0.out.trans HB1.out).trans (Byk.below hbw)
  have hcF := ((Below.chg F HBB.out).trans HF1.out).trans (Below.chg F hbw)
  refine ⟨A2, c2, rfl, DB.own HO2.out (fun _ _ _ => trivial), (HA1.out.below hbw).mono (fun k hk => ?_) (fun k hk => ?_), hby, hcF⟩
  · rcases hk with hk | hk
    · exact Or.inl hk
    · exact Or.inr ⟨by have := hk.1; simp at this; omega, by have := hbw.size; omega⟩
  · rcases hk with hk | hk
    · have := HF.out k hk; have := hby.size; omega
    · exact hk.2

set_option maxRecDepth 8000 in
theorem append_live {w : World} {D : Nat} {F : Nat → Prop} {d : Dv} {ld : Bs} {v : Value} (h : Awake w D F d) (hdn : d.down = false) (hv : SB w v ld) (hroom : (d.log.length : Int) + ld.length ≤ d.room) (hr2 : d.room ≤ 1048576) (hne : ld ≠ []) (hfew : d.acc.length < 1099511627776 ∧ d.past.length < 1099511627776) :
    Calls Try.prog 14 #[.pointer (some ⟨D, 0, none⟩), v] w fun e w' => e = .returned (.int .i64 0) ∧ Awake w' D (Grown F w w') { d with log := d.log ++ ld, acc := d.acc ++ [(6, 0, true)], past := d.past ++ [⟨fun _ => none, 0, d.log⟩] } ∧ Byk w w' ∧ Chg F w w' := by
  have HR := Lib.hid (fun (W : World) (A : Option Addr) (c : Nat) (hb : Below w.heap.size w W) (ho : OwnB W w.heap.size (.slice A ld.length c) ld) => run_append (h.below hb) hdn (DB.own ho (fun _ _ _ => trivial)) hroom hr2 hne hfew)
  have HV := Lib.hid hv
  have HL := Lib.hid (show ld.length ≤ 1048576 by omega)
  have HF := Lib.hid h.fit
  clear h hdn hfew hroom hr2 hne hv
  go_enter Try.func14, Try.ntmps14
  go_wp2_with (first
    | (go_at_call 33; refine (bclone_any _ ld _ (HV.out.below (by (repeat (first | exact Below.refl _ _ | refine bg_al ?_ | refine bg_gr ?_ | refine bg_drn ?_ | refine bg_dr ?_ | assumption)))) (by have := HL.out; omega)).mono ?_; rintro en w2 ⟨A2, c2, rfl, ho2, hb2⟩; have HB2 := Lib.hid hb2; clear hb2; have HO2 := Lib.hid ho2; clear ho2)
    | (go_at_call 32; rw [deed_data]; refine (HR.out _ _ _ HB2.out HO2.out).mono ?_; rintro en w1 ⟨xA, xn, xc, rfl, hA1, hb1, hf1⟩; have HF1 := Lib.hid hf1; clear hf1; have HA1 := Lib.hid hA1; have HB1 := Lib.hid hb1; clear hA1 hb1))
  go_ret
  have hbw : Below w1.heap.size w1 (w1.alloc (.cells (deedC 6 zero32 (.slice xA xn xc) (.slice none 0 0) 0 0 zero32).toArray 86)) := by (repeat (first | exact Below.refl _ _ | refine bg_al ?_ | refine bg_gr ?_ | refine bg_drn ?_ | refine bg_dr ?_ | assumption))
  have hby := ((Byk.below HB2.out).trans HB1.out).trans (Byk.below hbw)
  have hcF := ((Below.chg F HB2.out).trans HF1.out).trans (Below.chg F hbw)
  refine ⟨rfl, (HA1.out.below hbw).mono (fun k hk => ?_) (fun k hk => ?_), hby, hcF⟩
  · rcases hk with hk | hk
    · exact Or.inl hk
    · exact Or.inr ⟨by have := hk.1; have := HB2.out.size; omega, by have := hbw.size; omega⟩
  · rcases hk with hk | hk
    · have := HF.out k hk; have := hby.size; omega
    · exact hk.2

theorem accesses_live {w : World} {D : Nat} {F : Nat → Prop} {d : Dv} (h : Awake w D F d) :
    Calls Try.prog 20 #[.pointer (some ⟨D, 0, none⟩)] w fun e w' => ∃ A c, e = .returned (.slice A d.acc.length c) ∧ w'.ownsRow w.heap.size 95 3 (.slice A d.acc.length c) d.acc.length (d.acc.flatMap acC) ∧ Below w.heap.size w w' := by
  obtain ⟨m, hI, -, -, ⟨aA, ac, hav⟩, -⟩ := h.parts
  obtain ⟨-, -, -, -, -, -, -, hc39, -⟩ := dev_c hI.dev
  have hc39' : w.cell? ⟨D, 39, none⟩ = some (.slice aA d.acc.length ac) := by rw [hc39]; exact congrArg some hav
  have hsrc := Src.own hI.acc.1
  rw [hav] at hsrc
  have hsz : ∀ c, (Value.slice aA d.acc.length ac) = .slice none d.acc.length c → d.acc.length = 0 := fun c e => by
    have hr := hI.acc.1
    rw [hav] at hr
    injection e with e
    rcases hr.2 with ⟨e2, h0⟩ | ⟨g, cap, cur, e2, _⟩
    · exact h0
    · injection e2 with e2
      rw [e] at e2
      cases e2
  have h1 : ∀ u ∈ d.acc.flatMap acC, u.oneCell' = true := fun u hu => by
    obtain ⟨c, _, hc⟩ := List.mem_flatMap.1 hu
    simp [acC] at hc
    rcases hc with rfl | rfl | rfl <;> rfl
  have HC := Lib.hid (aclone_any _ _ _ w hsrc h1 h.few.1 hsz)
  clear h hI hav hc39 hsrc hsz h1
  go_enter Try.func20, Try.ntmps20
  go_wp2_with (go_at_call 36; refine HC.out.mono ?_; rintro en w2 ⟨A2, c2, rfl, ho2, hb2⟩; have HB2 := Lib.hid hb2; have HO2 := Lib.hid ho2; clear ho2 hb2)
  go_ret
  exact ⟨A2, c2, rfl, HO2.out, HB2.out⟩
end Go.Proofs.Ytcbglojjbgenlaa
