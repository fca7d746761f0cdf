/- The plain thing that a device is held against: its memory; at. The plain thing and the device side by side. does of the plain thing: Get, Delete's refusal, and the like. -/
import Derived.Test.YtcbglojjbgenlaaHnF
import Derived.Test.YtcbglojjbgenlaaHnE
import Derived.Test.YtcbglojjbgenlaaHnG
namespace Go.Proofs.Ytcbglojjbgenlaa
open Go.RowKit Go.MapL Go.ChangeMaps Go.MapKept
set_option linter.unusedSimpArgs false
set_option linter.unusedVariables false
attribute [local go_sem] size_gr cell_gr frozen_gr setCell_gr gr_drew gr_drewN lt_k lt_kc le_k le_kc sub_kc nil29 nil28 nil49 mkmap size_setBlock cell_setB
attribute [local go_sem ↓] Go.wp_at_zero Go.wp_at_succ
attribute [local go_sem high] hash_eql hash_neq

def plC (sl rm : Int) (kv dv lv : Value) (c : Int) (t : H32) : List Value := [.int .i64 sl, .int .i64 rm, kv, dv, lv] ++ regC c t
theorem plC_len (sl rm : Int) (kv dv lv : Value) (c : Int) (t : H32) : (plC sl rm kv dv lv c t).length = 38 := by simp [plC, reg_len]
def PlAt (w : World) (P : Nat) (sl rm : Int) (kv dv lv : Value) (c : Int) (t : H32) : Prop := w.heap[P]? = some (.cells (plC sl rm kv dv lv c t).toArray 62 (0, 0))
theorem pl_c {w : World} {P : Nat} {sl rm : Int} {kv dv lv : Value} {c : Int} {t : H32} (h : PlAt w P sl rm kv dv lv c t) :
    w.cell? ⟨P, 0, none⟩ = some (.int .i64 sl) ∧ w.cell? ⟨P, 1, none⟩ = some (.int .i64 rm) ∧ w.cell? ⟨P, 2, none⟩ = some kv ∧ w.cell? ⟨P, 3, none⟩ = some dv ∧ w.cell? ⟨P, 4, none⟩ = some lv ∧ w.cell? ⟨P, 5, none⟩ = some (.int .i64 c) ∧ P < w.heap.size := by
  have hc := fun k => cell_of_row w P k _ _ _ h
  refine ⟨?_, ?_, ?_, ?_, ?_, ?_, (Array.getElem?_eq_some_iff.1 h).1⟩ <;> rw [hc] <;> rfl
theorem pl_fr {w : World} {P : Nat} {sl rm : Int} {kv dv lv : Value} {c : Int} {t : H32} (h : PlAt w P sl rm kv dv lv c t) (k : Nat) : w.frozen? ⟨P, k, none⟩ = false := frozen_of_row w P k _ _ h
theorem pl_reg {w : World} {P : Nat} {sl rm : Int} {kv dv lv : Value} {c : Int} {t : H32} (h : PlAt w P sl rm kv dv lv c t) : w.rangeAt P 5 (regC c t) := by
  refine range_blk h 5 _ (fun j v hj => ?_)
  rw [List.getElem?_toArray, plC, List.getElem?_append_right (by simp), ← hj]
  congr 1
  simp
theorem pl_chg {S : Nat → Prop} {w w' : World} {P : Nat} {sl rm : Int} {kv dv lv : Value} {c : Int} {t : H32} (h : PlAt w P sl rm kv dv lv c t) (hc : Chg S w w') (hs : ¬ S P) : PlAt w' P sl rm kv dv lv c t := by
  unfold PlAt
  rw [hc.block P (pl_c h).2.2.2.2.2.2 hs]
  exact h

theorem keys_flat {ks : List H32} {i j : Nat} (hi : i < ks.length) (hj : j < 32) : (ks.flatMap encH)[i * 32 + j]? = (encH ks[i])[j]? := by
  have h1 : i * 32 + j < ks.length * 32 := by omega
  rw [flat_at ks _ h1, show (i * 32 + j) / 32 = i by omega, show (i * 32 + j) % 32 = j by omega, getElem!_pos ks.toArray i (by simpa using hi), getElem!_pos (encH _) j (by rw [encH_len]; exact hj), List.getElem?_eq_getElem (by rw [encH_len]; exact hj)]
  simp
theorem keys_range {w : World} {base g cap : Nat} {ks : List H32} (h : w.ownsRow base 33 32 (.slice (some ⟨g, 0, none⟩) ks.length cap) ks.length (ks.flatMap encH)) (i : Nat) (hi : i < ks.length) : w.rangeAt g (i * 32) (ks[i].1.map bv) := by
  intro j v hj
  have hj' : j < 32 := by
    have := (List.getElem?_eq_some_iff.1 hj).1
    rwa [q_len] at this
  have := h.cells (g := g) rfl (i * 32 + j) v (by rw [keys_flat hi hj']; exact hj)
  rw [addr_add, Nat.zero_add] at this
  exact this

theorem quiet_load_mid {C : World → Prop} {K : Act → Prop} {o : Oper} {a : Act} (ty : TypeId) (x : Operand) (ho : o.op = .load ty x) (b k : Nat) (hx : a.eval x = .pointer (some ⟨b, k, none⟩)) (cs : List Value) (d : TypeDesc) (hc : ∀ w, C w → w.rangeAt b k cs)
    (hu : (Try.prog).underlying ty = some d) (hd : d.isRow = true) (hi : ((Try.prog).info? ty).map (·.size) = some cs.length) (hK : K (a.put o.dst (.agg cs.toArray))) : o.quiet Try.prog a C K :=
  ⟨_, fun w hw => by
    unfold Oper.quietAt execOp
    simp only [ho, hx, Instr.loadAt, Instr.sureAddr, Sem.run_bind, Sem.run_pure, Result.andThen_ok, run_loadVar_mid w b k ty cs d (hc w hw) hu hd hi]
    exact ⟨rfl, rfl⟩, hK⟩
set_option maxHeartbeats 1000000 in
set_option maxRecDepth 8000 in
theorem at_any (P : Nat) (sl rm : Int) (kv dv lv : Value) (c : Int) (t : H32) (ks : List H32) (q : H32) (base : Nat) (w : World) (hP : PlAt w P sl rm kv dv lv c t) (hK : w.ownsRow base 33 32 kv ks.length (ks.flatMap encH)) (hn : ks.length ≤ 1099511627776) :
    Calls Try.prog 40 #[.pointer (some ⟨P, 0, none⟩), hv q] w fun e w' => (∃ i : Int, e = .returned (.int .i64 i) ∧ ((i = -1 ∧ q ∉ ks) ∨ ∃ (j : Nat) (h : j < ks.length), i = j ∧ ks[j] = q)) ∧ Below w.heap.size w w' := by
  obtain ⟨A, cap, rfl⟩ := row_slice hK
  obtain ⟨-, -, hc2, -, -, -, hPlt⟩ := pl_c hP
  have HK := Lib.hid hK
  have HN := Lib.hid hn
  unfold hv
  clear hP hK hn
  go_enter Try.func40, Try.ntmps40
  go_wp2
  go_loopw [5] (fun i wr => ∃ k : Nat, k ≤ ks.length ∧ q ∉ ks.take k ∧ i = .int .i64 k ∧ ∃ n, wr = (w.alloc (.cells (q.1.map bv).toArray 33)).drewN n) (fun i _ => ks.length - (intOf i).toNat)
  case atStart => exact ⟨0, by omega, by simp, rfl, 0, rfl⟩
  case round =>
    obtain ⟨k, hk, hno, rfl, n, rfl⟩ := hrel
    have HNO := Lib.hid hno
    clear hno
    by_cases h1 : k < ks.length
    · obtain ⟨g, cap', e1, -⟩ := own_form HK.out (by omega)
      injection e1 with e1 _ _
      subst e1
      have hrk := keys_range HK.out k h1
      have hg : g < w.heap.size := by
        obtain ⟨_, _, hh⟩ := own_heap HK.out (k := g) rfl
        exact (Array.getElem?_eq_some_iff.1 hh).1
      have HS := Lib.hid (show ((w.alloc (.cells (q.1.map bv).toArray 33)).drewN n).rangeAt g (k * 32) (ks[k].1.map bv) from range_bel hrk (by (repeat (first | exact Below.refl _ _ | refine bg_al ?_ | refine bg_gr ?_ | refine bg_drn ?_ | refine bg_dr ?_ | assumption))))
      have HQ := Lib.hid (show ((w.alloc (.cells (q.1.map bv).toArray 33)).drewN n).rangeAt w.heap.size 0 (q.1.map bv) from range_hash w _ q rfl)
      have hstep : ks[k] ≠ q → q ∉ ks.take (k + 1) := fun hne hm => by
        rw [List.take_succ_eq_append_getElem h1] at hm
        rcases List.mem_append.1 hm with hm | hm
        · exact HNO.out hm
        · simp at hm
          exact hne hm.symm
      have HST := Lib.hid hstep
      have HPOS := Lib.hid h1
      have h1' : (k : Int) < (ks.length : Int) := by omega
      have hbig : (ks.length : Int) ≤ 1099511627776 := by have := HN.out; omega
      clear hrk hstep
      go_wp2_with fail
      by_cases he : ks[k] = q
      · have hd : decide (ks[k] = q) = true := by simpa using he
        refine wp_region_quiet_lit (by kernel_rfl) (by kernel_rfl) ?_
        repeat (first
          | (refine BigFrame.wpQuiet_want (by rfl) (fun K hK => quiet_load_mid 33 (.tmp 20) rfl _ _ (by rfl) (ks[k].1.map bv) _ (fun w' hw' => by obtain ⟨nq, rfl⟩ := hw'; exact range_bel HS.out (by (repeat (first | exact Below.refl _ _ | refine bg_al ?_ | refine bg_gr ?_ | refine bg_drn ?_ | refine bg_dr ?_ | assumption)))) Try.underlying33 rfl (hash_info ks[k]) (hK _ ?_)))
          | (refine BigFrame.wpQuiet_want (by rfl) (fun K hK => quiet_load_mid 33 (.tmp 3) rfl _ _ (by rfl) (q.1.map bv) _ (fun w' hw' => by obtain ⟨nq, rfl⟩ := hw'; exact range_bel HQ.out (by (repeat (first | exact Below.refl _ _ | refine bg_al ?_ | refine bg_gr ?_ | refine bg_drn ?_ | refine bg_dr ?_ | assumption)))) Try.underlying33 rfl (hash_info q) (hK _ ?_)))
          | quiet_step (fail))
        refine wpQuiet_nil ?_
        intro _ hw'
        obtain ⟨nq, hw''⟩ := hw'
        subst hw''
        go_wp2_with fail
        go_ret
        exact ⟨⟨_, rfl, Or.inr ⟨k, HPOS.out, rfl, he⟩⟩, by (repeat (first | exact Below.refl _ _ | refine bg_al ?_ | refine bg_gr ?_ | refine bg_drn ?_ | refine bg_dr ?_ | assumption))⟩
      · have hd : decide (ks[k] = q) = false := by simpa using he
        have HNE := Lib.hid (HST.out he)
        refine wp_region_quiet_lit (by kernel_rfl) (by kernel_rfl) ?_
        repeat (first
          | (refine BigFrame.wpQuiet_want (by rfl) (fun K hK => quiet_load_mid 33 (.tmp 20) rfl _ _ (by rfl) (ks[k].1.map bv) _ (fun w' hw' => by obtain ⟨nq, rfl⟩ := hw'; exact range_bel HS.out (by (repeat (first | exact Below.refl _ _ | refine bg_al ?_ | refine bg_gr ?_ | refine bg_drn ?_ | refine bg_dr ?_ | assumption)))) Try.underlying33 rfl (hash_info ks[k]) (hK _ ?_)))
          | (refine BigFrame.wpQuiet_want (by rfl) (fun K hK => quiet_load_mid 33 (.tmp 3) rfl _ _ (by rfl) (q.1.map bv) _ (fun w' hw' => by obtain ⟨nq, rfl⟩ := hw'; exact range_bel HQ.out (by (repeat (first | exact Below.refl _ _ | refine bg_al ?_ | refine bg_gr ?_ | refine bg_drn ?_ | refine bg_dr ?_ | assumption)))) Try.underlying33 rfl (hash_info q) (hK _ ?_)))
          | quiet_step (fail))
        refine wpQuiet_nil ?_
        intro _ hw'
        obtain ⟨nq, hw''⟩ := hw'
        subst hw''
        go_wp2_with fail
        exact ⟨⟨k + 1, by omega, HNE.out, by go_num, n + nq, rfl⟩, by simp [intOf]; omega⟩
    · obtain rfl : k = ks.length := by omega
      rw [List.take_length] at HNO
      have h1' : ¬ (ks.length : Int) < (ks.length : Int) := by omega
      go_wp2
      go_ret
      exact ⟨⟨-1, rfl, Or.inl ⟨rfl, HNO.out⟩⟩, by (repeat (first | exact Below.refl _ _ | refine bg_al ?_ | refine bg_gr ?_ | refine bg_drn ?_ | refine bg_dr ?_ | assumption))⟩
end Go.Proofs.Ytcbglojjbgenlaa
namespace Go.Proofs.Ytcbglojjbgenlaa
open Go.RowKit Go.MapL Go.ChangeMaps Go.MapKept
set_option linter.unusedSimpArgs false
set_option linter.unusedVariables false

/-- the plain thing's memory -/
def PMem (w0 w : World) (F : Nat → Prop) (P : Nat) (s : Hn) (keys : List H32) (datas : List Bs) : Prop :=
  ∃ kv dv lv vals, PlAt w P s.slots s.room kv dv lv s.cnt s.tag ∧ (w0.heap.size ≤ P ∧ ¬ F P) ∧
    w.ownsRow w0.heap.size 33 32 kv keys.length (keys.flatMap encH) ∧ (∀ b, kv.ownBlock = some b → ¬ F b) ∧
    w.ownsRow w0.heap.size 29 1 dv keys.length vals ∧ (∀ b, dv.ownBlock = some b → ¬ F b) ∧
    (∀ i (h : i < vals.length) (h' : i < datas.length), SB w0 vals[i] datas[i]) ∧ DB w (fun _ => True) lv s.log
theorem PMem.after {w0 w w' : World} {F : Nat → Prop} {P : Nat} {s : Hn} {keys : List H32} {datas : List Bs} (h : PMem w0 w F P s keys datas) (hb : Byk w w') (hc : Chg F w w') : PMem w0 w' (Grown F w w') P s keys datas := by
  obtain ⟨kv, dv, lv, vals, h1, ⟨h2, h3⟩, h4, h5, h6, h7, h8, h9⟩ := h
  have hrow : ∀ {base : Nat} {e : TypeId} {size : Nat} {v : Value} {n : Nat} {xs : List Value}, w.ownsRow base e size v n xs → (∀ b, v.ownBlock = some b → ¬ F b) → ∀ b, v.ownBlock = some b → ¬ Grown F w w' b := fun hv hn b hk hg => by
    obtain ⟨_, _, hh⟩ := own_heap hv hk
    have := (Array.getElem?_eq_some_iff.1 hh).1
    rcases hg with hg | hg
    · exact hn b hk hg
    · omega
  refine ⟨kv, dv, lv, vals, pl_chg h1 hc h3, ⟨h2, fun hg => ?_⟩, own_chg h4 hc (fun k hk => h5 k hk), hrow h4 h5, own_chg h6 hc (fun k hk => h7 k hk), hrow h6 h7, h8, Byk.db h9 hb⟩
  have := (pl_c h1).2.2.2.2.2.2
  rcases hg with hg | hg
  · exact h3 hg
  · omega
theorem PMem.below {w0 w w' : World} {F : Nat → Prop} {P : Nat} {s : Hn} {keys : List H32} {datas : List Bs} (h : PMem w0 w F P s keys datas) (hb : Below w.heap.size w w') : PMem w0 w' F P s keys datas := by
  obtain ⟨kv, dv, lv, vals, h1, h2, h4, h5, h6, h7, h8, h9⟩ := h
  exact ⟨kv, dv, lv, vals, pl_chg (S := fun _ => False) h1 (Below.chg _ hb) (fun h => h), h2, own_below h4 hb, h5, own_below h6 hb, h7, h8, db_below h9 hb⟩

structure Bd (s : Hn) (keys : List H32) : Prop where
  slots : 1 ≤ s.slots ∧ s.slots ≤ 8
  room : 0 ≤ s.room ∧ s.room ≤ 200
  log : (s.log.length : Int) ≤ s.room
  keys : (keys.length : Int) ≤ s.slots
  cnt : 0 ≤ s.cnt ∧ s.cnt ≤ 1099511627776 ∧ (0 < s.cnt ∨ s.tag = zero32)
structure LInv (w0 w : World) (D : Nat) (F : Nat → Prop) (P : Nat) (s : Hn) (keys : List H32) (datas : List Bs) (k : Nat) : Prop where
  bel : Below w0.heap.size w0 w
  dev : Plain w D F s k
  fr : ∀ j, F j → w0.heap.size ≤ j
  mem : PMem w0 w F P s keys datas
  kd : KD s.blobs s.n keys datas
  bd : Bd s keys
theorem LInv.below {w0 w w' : World} {D : Nat} {F : Nat → Prop} {P : Nat} {s : Hn} {keys : List H32} {datas : List Bs} {k : Nat} (h : LInv w0 w D F P s keys datas k) (hb : Below w.heap.size w w') : LInv w0 w' D F P s keys datas k :=
  ⟨h.bel.trans (hb.mono h.bel.size), h.dev.below hb, h.fr, h.mem.below hb, h.kd, h.bd⟩
theorem LInv.more {w0 w : World} {D : Nat} {F : Nat → Prop} {P : Nat} {s : Hn} {keys : List H32} {datas : List Bs} {k : Nat} (h : LInv w0 w D F P s keys datas k) : LInv w0 w D F P s keys datas (k + 1) := by
  obtain ⟨d, h1, h2, h3, h4⟩ := h.dev
  exact ⟨h.bel, ⟨d, h1, h2, h3, h4.more (by omega) (by omega) (fun q => by omega)⟩, h.fr, h.mem, h.kd, h.bd⟩
/-- a call that leaves the device as a plain thing as it was -/
theorem LInv.call {w0 w w' : World} {D : Nat} {F : Nat → Prop} {P : Nat} {s : Hn} {keys : List H32} {datas : List Bs} {k : Nat} (h : LInv w0 w D F P s keys datas k) (ha : After w w' D F s (k + 1)) : LInv w0 w' D (Grown F w w') P s keys datas (k + 1) :=
  ⟨h.bel.trans (ha.2.2.bel h.fr h.bel.size), ha.1, fun j hj => by
    rcases hj with hj | hj
    · exact h.fr j hj
    · have := h.bel.size; omega, h.mem.after ha.2.1 ha.2.2, h.kd, h.bd⟩
/-- .. that changes it: what stands behind it, and the plain thing is still to follow -/
structure LMid (w0 w : World) (D : Nat) (F : Nat → Prop) (P : Nat) (s s' : Hn) (keys : List H32) (datas : List Bs) (k : Nat) : Prop where
  bel : Below w0.heap.size w0 w
  dev : Plain w D F s' k
  fr : ∀ j, F j → w0.heap.size ≤ j
  mem : PMem w0 w F P s keys datas
  kd : KD s.blobs s.n keys datas
  bd : Bd s keys
theorem LInv.call2 {w0 w w' : World} {D : Nat} {F : Nat → Prop} {P : Nat} {s s' : Hn} {keys : List H32} {datas : List Bs} {k : Nat} (h : LInv w0 w D F P s keys datas k) (ha : After w w' D F s' (k + 1)) : LMid w0 w' D (Grown F w w') P s s' keys datas (k + 1) :=
  ⟨h.bel.trans (ha.2.2.bel h.fr h.bel.size), ha.1, fun j hj => by
    rcases hj with hj | hj
    · exact h.fr j hj
    · have := h.bel.size; omega, h.mem.after ha.2.1 ha.2.2, h.kd, h.bd⟩
theorem LMid.fin {w0 w1 w2 : World} {D : Nat} {F S : Nat → Prop} {P : Nat} {s s' : Hn} {keys keys' : List H32} {datas datas' : List Bs} {k : Nat} (h : LMid w0 w1 D F P s s' keys datas k) (hc : Chg S w1 w2)
    (hS : ∀ j, S j → j < w1.heap.size → ¬ F j ∧ w0.heap.size ≤ j ∧ ∃ c t fr, w1.heap[j]? = some (.cells c t fr) ∧ t ≠ 5) (hm : PMem w0 w2 F P s' keys' datas') (hkd : KD s'.blobs s'.n keys' datas') (hbd : Bd s' keys') : LInv w0 w2 D F P s' keys' datas' k := by
  have hc' : Chg (fun j => S j ∧ j < w1.heap.size) w1 w2 := hc.mono (fun j hj hs => ⟨hs, hj⟩)
  exact ⟨h.bel.trans (hc'.bel (fun j hj => (hS j hj.1 hj.2).2.1) h.bel.size), h.dev.away hc (fun j hj hl => ⟨(hS j hj hl).1, (hS j hj hl).2.2⟩), h.fr, hm, hkd, hbd⟩

theorem at_yes (P : Nat) (sl rm : Int) (kv dv lv : Value) (c : Int) (t : H32) (ks : List H32) (q : H32) (base : Nat) (w : World) (hP : PlAt w P sl rm kv dv lv c t) (hK : w.ownsRow base 33 32 kv ks.length (ks.flatMap encH)) (hn : ks.length ≤ 1099511627776) (hnd : ks.Nodup) (j : Nat) (hj : j < ks.length) (hq : ks[j] = q) :
    Calls Try.prog 40 #[.pointer (some ⟨P, 0, none⟩), .agg (q.1.map bv).toArray] w fun e w' => e = .returned (.int .i64 (j : Int)) ∧ Below w.heap.size w w' := by
  refine (at_any P sl rm kv dv lv c t ks q base w hP hK hn).mono ?_
  rintro e w' ⟨⟨i, rfl, hi⟩, hb⟩
  rcases hi with ⟨-, hno⟩ | ⟨j', hj', rfl, hq'⟩
  · exact absurd (hq ▸ List.getElem_mem hj) hno
  · have : j' = j := nodup_inj hnd hj' hj (hq'.trans hq.symm)
    subst this
    exact ⟨rfl, hb⟩
theorem at_no (P : Nat) (sl rm : Int) (kv dv lv : Value) (c : Int) (t : H32) (ks : List H32) (q : H32) (base : Nat) (w : World) (hP : PlAt w P sl rm kv dv lv c t) (hK : w.ownsRow base 33 32 kv ks.length (ks.flatMap encH)) (hn : ks.length ≤ 1099511627776) (hq : q ∉ ks) :
    Calls Try.prog 40 #[.pointer (some ⟨P, 0, none⟩), .agg (q.1.map bv).toArray] w fun e w' => e = .returned (.int .i64 (-1)) ∧ Below w.heap.size w w' := by
  refine (at_any P sl rm kv dv lv c t ks q base w hP hK hn).mono ?_
  rintro e w' ⟨⟨i, rfl, hi⟩, hb⟩
  rcases hi with ⟨rfl, -⟩ | ⟨j', hj', rfl, hq'⟩
  · exact ⟨rfl, hb⟩
  · exact absurd (hq' ▸ List.getElem_mem hj') hq
/-- at, as the index told -/
def atI (ks : List H32) (q : H32) : Int := if q ∈ ks then (ks.idxOf q : Int) else -1
theorem at_is (P : Nat) (sl rm : Int) (kv dv lv : Value) (c : Int) (t : H32) (ks : List H32) (q : H32) (base : Nat) (w : World) (hP : PlAt w P sl rm kv dv lv c t) (hK : w.ownsRow base 33 32 kv ks.length (ks.flatMap encH)) (hn : ks.length ≤ 1099511627776) (hnd : ks.Nodup) :
    Calls Try.prog 40 #[.pointer (some ⟨P, 0, none⟩), .agg (q.1.map bv).toArray] w fun e w' => e = .returned (.int .i64 (atI ks q)) ∧ Below w.heap.size w w' := by
  unfold atI
  split
  · next h => exact at_yes P sl rm kv dv lv c t ks q base w hP hK hn hnd _ (List.idxOf_lt_length_iff.2 h) (List.getElem_idxOf (List.idxOf_lt_length_iff.2 h))
  · next h => exact at_no P sl rm kv dv lv c t ks q base w hP hK hn h
end Go.Proofs.Ytcbglojjbgenlaa
namespace Go.Proofs.Ytcbglojjbgenlaa
open Go.RowKit Go.MapL Go.ChangeMaps Go.MapKept
set_option linter.unusedSimpArgs false
set_option linter.unusedVariables false

attribute [local go_sem] size_gr cell_gr frozen_gr setCell_gr gr_drew gr_drewN lt_k lt_kc le_k le_kc sub_kc nil29 nil28 nil49 mkmap size_setBlock cell_setB opC_len opC_0 opC_33 opC_34 opC_35 opC_0g opC_33g opC_34g opC_35g
attribute [local go_sem ↓] Go.wp_at_zero Go.wp_at_succ

def LDone (w0 w' : World) (D P : Nat) (k : Nat) : Prop := ∃ F' s' keys' datas', LInv w0 w' D F' P s' keys' datas' k
/-- what the head of does leans on -/
structure Head (w0 w : World) (D : Nat) (F : Nat → Prop) (P : Nat) (s : Hn) (keys : List H32) (datas : List Bs) (k : Nat) (o : Opv) : Prop where
  inv : LInv w0 w D F P s keys datas k
  op : ∀ W, Below (w.alloc (.cells (opC o).toArray 66)).heap.size (w.alloc (.cells (opC o).toArray 66)) W → OpAt W w.heap.size o
  at_ : ∀ W, Below w.heap.size w W → Calls Try.prog 40 #[.pointer (some ⟨P, 0, none⟩), .agg (o.key.1.map bv).toArray] W fun e w' => e = .returned (.int .i64 (atI keys o.key)) ∧ Below W.heap.size W w'
theorem head_mk {w0 w : World} {D : Nat} {F : Nat → Prop} {P : Nat} {s : Hn} {keys : List H32} {datas : List Bs} {k : Nat} (o : Opv) (h : LInv w0 w D F P s keys datas k) : Head w0 w D F P s keys datas k o := by
  refine ⟨h, fun W hb => ?_, fun W hb => ?_⟩
  · unfold OpAt
    rw [hb.block _ (by simp)]
    exact heap_alloc_last _ _
  · obtain ⟨kv, dv, lv, vals, h1, h2, h4, h5, h6, h7, h8, h9⟩ := (h.mem.below hb)
    exact at_is P _ _ kv dv lv _ _ keys o.key _ W h1 h4 (by have := h.bd.keys; have := h.bd.slots; omega) h.kd.nd
theorem lt_fit {w0 w : World} {D : Nat} {F : Nat → Prop} {P : Nat} {s : Hn} {keys : List H32} {datas : List Bs} {k : Nat} (h : LInv w0 w D F P s keys datas k) : ¬ F w.heap.size := fun hf => by
  have := h.dev.fit _ hf
  omega
theorem op_after {w0 w W w2 : World} {D : Nat} {F : Nat → Prop} {P : Nat} {s s' : Hn} {keys : List H32} {datas : List Bs} {k k' : Nat} {o : Opv} (H : Head w0 w D F P s keys datas k o) (hb : Below (w.alloc (.cells (opC o).toArray 66)).heap.size (w.alloc (.cells (opC o).toArray 66)) W) (ha : After W w2 D F s' k') : OpAt w2 w.heap.size o := by
  have h1 := H.op W hb
  unfold OpAt at h1 ⊢
  rw [ha.2.2.block _ (Array.getElem?_eq_some_iff.1 h1).1 (lt_fit H.inv)]
  exact h1

set_option maxHeartbeats 1000000 in
set_option maxRecDepth 8000 in
theorem lget_no {w0 w : World} {D : Nat} {F : Nat → Prop} {P : Nat} {s : Hn} {keys : List H32} {datas : List Bs} {k : Nat} (h : LInv w0 w D F P s keys datas k) (hk : k < 1000000) (o : Opv) (hkind : o.kind = 1) (hq : o.key ∉ keys) :
    Calls Try.prog 26 #[.pointer (some ⟨P, 0, none⟩), .pointer (some ⟨D, 0, none⟩), .agg (opC o).toArray] w fun e w' => e = .returned (.bool true) ∧ LDone w0 w' D P (k + 1) := by
  have HH := Lib.hid (head_mk o h)
  obtain ⟨kv, dv, lv, vals, h1, h2, h4, h5, h6, h7, h8, h9⟩ := h.mem
  obtain ⟨hc0, hc1, hc2, hc3, hc4, hc5, hPlt⟩ := pl_c h1
  obtain ⟨⟨lA, lc, rfl, -⟩, -⟩ := h9
  have hat : atI keys o.key = -1 := by unfold atI; rw [if_neg hq]
  have HQ := Lib.hid (h.kd.no _ hq)
  have HK := Lib.hid hk
  have hkd : ((o.kind == 1) : Bool) = true := by rw [hkind]; rfl
  clear h h1 h2 h4 h5 h6 h7 h8 hq hk
  go_enter Try.func26, Try.ntmps26
  go_wp2_with (first
    | (refine wpList_load_mid rfl 33 _ rfl _ _ (by rfl) (o.key.1.map bv) _ (op_c (HH.out.op _ (by (repeat (first | exact Below.refl _ _ | refine bg_al ?_ | refine bg_gr ?_ | refine bg_drn ?_ | refine bg_dr ?_ | assumption))))).2.1 Try.underlying33 rfl (hash_info o.key) ?_)
    | (go_at_call 40; refine (HH.out.at_ _ (by (repeat (first | exact Below.refl _ _ | refine bg_al ?_ | refine bg_gr ?_ | refine bg_drn ?_ | refine bg_dr ?_ | assumption)))).mono ?_; rw [hat]; rintro en w1 ⟨rfl, hb1⟩; obtain ⟨D1, rfl⟩ := gr_of_below hb1; clear hb1)
    | (go_at_call 8; refine (get_no_p (q := o.key) (HH.out.inv.below (by (repeat (first | exact Below.refl _ _ | refine bg_al ?_ | refine bg_gr ?_ | refine bg_drn ?_ | refine bg_dr ?_ | assumption)))).dev (by have := HK.out; omega) HQ.out).mono ?_; rintro en w2 ⟨A2, c2, rfl, ha⟩; have HA := Lib.hid ha; clear ha))
  go_ret
  exact ⟨rfl, _, _, _, _, (HH.out.inv.below (by (repeat (first | exact Below.refl _ _ | refine bg_al ?_ | refine bg_gr ?_ | refine bg_drn ?_ | refine bg_dr ?_ | assumption)))).call HA.out⟩
/-- the data that stands under a key -/
theorem LInv.dat {w0 w : World} {D : Nat} {F : Nat → Prop} {P : Nat} {s : Hn} {keys : List H32} {datas : List Bs} {k : Nat} (h : LInv w0 w D F P s keys datas k) (j : Nat) (hj : j < keys.length) :
    ∃ gd cd A c l, w.cell? ⟨P, 3, none⟩ = some (.slice (some ⟨gd, 0, none⟩) keys.length cd) ∧ w.cell? ⟨gd, j, none⟩ = some (.slice A l.length c) ∧ SB w (.slice A l.length c) l ∧ datas[j]? = some l ∧ (keys.length : Int) ≤ cd := by
  obtain ⟨kv, dv, lv, vals, h1, h2, h4, h5, h6, h7, h8, h9⟩ := h.mem
  obtain ⟨gd, cap, rfl, hcap, -⟩ := own_form h6 (by omega)
  have hvl : vals.length = keys.length := by simpa using h6.1
  have hdl := h.kd.len
  have hs := h8 j (by omega) (by omega)
  obtain ⟨A, c, e, hr⟩ := id hs
  have hc := h6.cells (g := gd) rfl j vals[j] (List.getElem?_eq_getElem (by omega))
  rw [addr_add, Nat.zero_add, e] at hc
  rw [e] at hs
  exact ⟨gd, cap, A, c, datas[j]'(by omega), (pl_c h1).2.2.2.1, hc, hs.below h.bel, List.getElem?_eq_getElem (by omega), by omega⟩

set_option maxHeartbeats 1000000 in
set_option maxRecDepth 8000 in
theorem lget_yes {w0 w : World} {D : Nat} {F : Nat → Prop} {P : Nat} {s : Hn} {keys : List H32} {datas : List Bs} {k : Nat} (h : LInv w0 w D F P s keys datas k) (hk : k < 1000000) (o : Opv) (hkind : o.kind = 1) (hq : o.key ∈ keys) :
    Calls Try.prog 26 #[.pointer (some ⟨P, 0, none⟩), .pointer (some ⟨D, 0, none⟩), .agg (opC o).toArray] w fun e w' => e = .returned (.bool true) ∧ LDone w0 w' D P (k + 1) := by
  have HH := Lib.hid (head_mk o h)
  obtain ⟨kv, dv, lv, vals, h1, h2, h4, h5, h6, h7, h8, h9⟩ := h.mem
  obtain ⟨hc0, hc1, hc2, hc3, hc4, hc5, hPlt⟩ := pl_c h1
  obtain ⟨⟨lA, lc, rfl, -⟩, -⟩ := h9
  obtain ⟨j, hj, hkj⟩ := List.mem_iff_getElem.1 hq
  have hat : atI keys o.key = (j : Int) := by
    unfold atI
    rw [if_pos hq]
    congr 1
    exact nodup_inj h.kd.nd (List.idxOf_lt_length_iff.2 hq) hj ((List.getElem_idxOf (List.idxOf_lt_length_iff.2 hq)).trans hkj.symm)
  have hdl : j < datas.length := by have := h.kd.len; omega
  have hbl : s.blobs o.key = some datas[j] := by rw [← hkj]; exact h.kd.at_ j hj hdl
  have hsm : datas[j].length ≤ 1024 := h.kd.small _ (List.getElem_mem hdl)
  have HDJ := Lib.hid (show datas[j]? = some datas[j] from List.getElem?_eq_getElem hdl)
  generalize datas[j] = l at *
  have HQ := Lib.hid hbl
  have HS := Lib.hid hsm
  have HK := Lib.hid hk
  have HJ := Lib.hid hj
  have hkd : ((o.kind == 1) : Bool) = true := by rw [hkind]; rfl
  have hj0 : ¬ (j : Int) < 0 := by omega
  have hj1 : (0 : Int) ≤ (j : Int) := by omega
  have hj2 : (j : Int) < (keys.length : Int) := by omega
  clear h h1 h2 h4 h5 h6 h7 h8 hq hk hkj hbl hsm hdl hj
  go_enter Try.func26, Try.ntmps26
  go_wp2_with (first
    | (refine wpList_load_mid rfl 33 _ rfl _ _ (by rfl) (o.key.1.map bv) _ (op_c (HH.out.op _ (by (repeat (first | exact Below.refl _ _ | refine bg_al ?_ | refine bg_gr ?_ | refine bg_drn ?_ | refine bg_dr ?_ | assumption))))).2.1 Try.underlying33 rfl (hash_info o.key) ?_)
    | (go_at_call 40; refine (HH.out.at_ _ (by (repeat (first | exact Below.refl _ _ | refine bg_al ?_ | refine bg_gr ?_ | refine bg_drn ?_ | refine bg_dr ?_ | assumption)))).mono ?_; rw [hat]; rintro en w1 ⟨rfl, hb1⟩; obtain ⟨D1, rfl⟩ := gr_of_below hb1; clear hb1)
    | (go_at_call 8; refine (get_p (q := o.key) (HH.out.inv.below (by (repeat (first | exact Below.refl _ _ | refine bg_al ?_ | refine bg_gr ?_ | refine bg_drn ?_ | refine bg_dr ?_ | assumption)))).dev (by have := HK.out; omega) HQ.out (by have := HS.out; omega)).mono ?_; rintro en w2 ⟨A2, c2, rfl, hsb, ha⟩; have HSB := Lib.hid hsb; have HI := Lib.hid ((HH.out.inv.below (by (repeat (first | exact Below.refl _ _ | refine bg_al ?_ | refine bg_gr ?_ | refine bg_drn ?_ | refine bg_dr ?_ | assumption)))).call ha); obtain ⟨gd, cd, A3, c3, l3, k3, k4, k5, k6, k7⟩ := HI.out.dat j HJ.out; have e3 : l3 = l := (by have := HDJ.out; rw [k6] at this; injection this); subst e3; have HS5 := Lib.hid k5; clear hsb ha k6 k5)
    | (go_at_call 28; refine (same_any _ _ l3 l3 _ (HSB.out.below (by (repeat (first | exact Below.refl _ _ | refine bg_al ?_ | refine bg_gr ?_ | refine bg_drn ?_ | refine bg_dr ?_ | assumption)))) (HS5.out.below (by (repeat (first | exact Below.refl _ _ | refine bg_al ?_ | refine bg_gr ?_ | refine bg_drn ?_ | refine bg_dr ?_ | assumption))))).mono ?_; rintro en w3 ⟨rfl, n3, rfl⟩))
  trace_state
  go_ret
  exact ⟨rfl, _, _, _, _, HI.out.below (by (repeat (first | exact Below.refl _ _ | refine bg_al ?_ | refine bg_gr ?_ | refine bg_drn ?_ | refine bg_dr ?_ | assumption)))⟩
end Go.Proofs.Ytcbglojjbgenlaa
