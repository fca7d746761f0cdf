/- limits: some that may be, made of any. MediaHonest: how the plain thing and the device begin, and how the device is loaded anew. -/
import Derived.Test.YtcbglojjbgenlaaHnL
import Derived.Test.YtcbglojjbgenlaaHnH
import Derived.Test.YtcbglojjbgenlaaFrmA
import Derived.Test.YtcbglojjbgenlaaMdD
namespace Go.Proofs.Ytcbglojjbgenlaa
open Go.RowKit Go.MapL Go.ChangeMaps Go.MapKept
set_option linter.unusedSimpArgs false
set_option linter.unusedVariables false
attribute [local go_sem] size_gr cell_gr frozen_gr setCell_gr gr_drew gr_drewN lt_k lt_kc le_k le_kc sub_kc nil29 nil28 nil49 mkmap size_setBlock cell_setB
attribute [local go_sem ↓] Go.wp_at_zero Go.wp_at_succ

theorem tm_lt (a : Int) (m : Int) (hm : 0 < m) : - m < a.tmod m ∧ a.tmod m < m := by
  have h1 := Int.tmod_lt_of_pos a hm
  have h2 := Int.lt_tmod_of_pos a hm
  exact ⟨h2, h1⟩
set_option maxHeartbeats 1000000 in
theorem limits_any (a b : Int) (w : World) : Calls Try.prog 24 #[.int .i64 a, .int .i64 b] w fun e w' => (∃ s r, e = .returned (.tuple #[.int .i64 s, .int .i64 r]) ∧ (1 ≤ s ∧ s ≤ 8) ∧ (0 ≤ r ∧ r ≤ 200)) ∧ Below w.heap.size w w' := by
  obtain ⟨a1, a2⟩ := tm_lt a 8 (by decide)
  obtain ⟨b1, b2⟩ := tm_lt b 200 (by decide)
  have hwa : IntKind.i64.wrap (a.tmod 8) = a.tmod 8 := IntWalk.i64_in _ (by omega)
  have hwb : IntKind.i64.wrap (b.tmod 200) = b.tmod 200 := IntWalk.i64_in _ (by omega)
  generalize hx : a.tmod 8 = x at *
  generalize hy : b.tmod 200 = y at *
  have HX := Lib.hid hx
  have HY := Lib.hid hy
  by_cases hx0 : x < 0 <;> by_cases hy0 : y < 0
  all_goals
    go_enter Try.func24, Try.ntmps24
    go_wp2_with fail
    go_ret2
    refine ⟨⟨_, _, rfl, ?_, ?_⟩, by (repeat (first | exact Below.refl _ _ | refine bg_al ?_ | refine bg_gr ?_ | refine bg_drn ?_ | refine bg_dr ?_ | assumption))⟩ <;> omega
end Go.Proofs.Ytcbglojjbgenlaa
namespace Go.Proofs.Ytcbglojjbgenlaa
open Go.RowKit Go.MapL Go.ChangeMaps Go.MapKept
set_option linter.unusedSimpArgs false
set_option linter.unusedVariables false

def hn0 (s r : Int) : Hn := ⟨s, r, fun _ => none, 0, [], 0, zero32⟩
theorem new_p (s r : Int) (w : World) (h : 1 ≤ s ∧ s ≤ 4096 ∧ 0 ≤ r ∧ r ≤ 1048576) : Calls Try.prog 6 #[.int .i64 s, .int .i64 r, .slice none 0 0] w fun e w' => (∃ D F, e = .returned (.tuple #[.pointer (some ⟨D, 0, none⟩), .int .i64 0]) ∧ (∀ k, F k → w.heap.size ≤ k) ∧ Plain w' D F (hn0 s r) 0) ∧ Below w.heap.size w w' := by
  refine (new_ok s r (.slice none 0 0) [] w h (SC.nil w 3) (by simp) rfl).mono ?_
  rintro e w' ⟨D, rfl, hb, hI⟩
  exact ⟨⟨D, _, rfl, fun k hk => hk.1, dv0 s r [], ⟨hI, fun k hk => hk.2, rfl, ⟨by simp [dv0], by simp [dv0], fun q => by simp [dv0]⟩, by simp [dv0]⟩, rfl, rfl, ⟨by simp [dv0], by simp [dv0], fun q => by simp [dv0]⟩⟩, hb⟩
theorem own_none {w : World} {base : Nat} {e : TypeId} {size : Nat} : w.ownsRow base e size (.slice none 0 0) 0 [] := ⟨by simp, Or.inl ⟨rfl, rfl⟩⟩
theorem linv_new {w0 w w' : World} {D : Nat} {F : Nat → Prop} {s r : Int} (hb : Below w0.heap.size w0 w) (hD : Plain w D F (hn0 s r) 0) (hF : ∀ k, F k → w0.heap.size ≤ k) (hs : 1 ≤ s ∧ s ≤ 8) (hr : 0 ≤ r ∧ r ≤ 200)
    (hb2 : Below w.heap.size w w') (P : Nat) (hPw : w.heap.size ≤ P) (hP : PlAt w' P s r (.slice none 0 0) (.slice none 0 0) (.slice none 0 0) 0 zero32) : LInv w0 w' D F P (hn0 s r) [] [] 0 := by
  have hz : ∀ b, (Value.slice none 0 0).ownBlock = some b → ¬ F b := fun b h => by simp [Value.ownBlock] at h
  have hc : (0 : Int) ≤ 1099511627776 := by decide
  refine ⟨hb.trans (hb2.mono hb.size), hD.below hb2, hF, ⟨.slice none 0 0, .slice none 0 0, .slice none 0 0, [], hP, ⟨by have := hb.size; omega, fun hf => ?_⟩, own_none, hz, own_none, hz, fun i h => absurd h (Nat.not_lt_zero _), DB.nil _ _⟩, KD.empty (bl := fun _ => none), ⟨hs, hr, hr.1, by show ((0 : Nat) : Int) ≤ s; omega, ⟨Int.le_refl _, hc, Or.inr rfl⟩⟩⟩
  have := hD.fit _ hf
  omega
theorem LInv.reload {w0 w w' : World} {D D' : Nat} {F F' : Nat → Prop} {P : Nat} {s : Hn} {keys : List H32} {datas : List Bs} {k : Nat} (h : LInv w0 w D F P s keys datas k) (hb : Below w.heap.size w w') (hD : Plain w' D' F' s 1) (hF : ∀ k, F' k → w.heap.size ≤ k) : LInv w0 w' D' F' P s keys datas 1 := by
  have h' := h.below hb
  obtain ⟨kv, dv, lv, vals, h1, h2, h4, h5, h6, h7, h8, h9⟩ := h.mem
  obtain ⟨kv', dv', lv', vals', g1, g2, g4, g5, g6, g7, g8, g9⟩ := h'.mem
  have hP := (pl_c h1).2.2.2.2.2.2
  have hrow : ∀ {base : Nat} {e : TypeId} {size : Nat} {v : Value} {n : Nat} {xs : List Value}, w.ownsRow base e size v n xs → ∀ b, v.ownBlock = some b → ¬ F' b := fun hv b hk hg => by
    obtain ⟨_, _, hh⟩ := own_heap hv hk
    have := (Array.getElem?_eq_some_iff.1 hh).1
    have := hF b hg
    omega
  exact ⟨h'.bel, hD, fun j hj => by have := hF j hj; have := h.bel.size; omega, ⟨kv, dv, lv, vals, pl_chg (S := fun _ => False) h1 (Below.chg _ hb) (fun h => h), ⟨h2.1, fun hf => by have := hF _ hf; omega⟩, own_below h4 hb, hrow h4, own_below h6 hb, hrow h6, h8, db_below h9 hb⟩, h.kd, h.bd⟩
theorem LInv.moreN {w0 w : World} {D : Nat} {F : Nat → Prop} {P : Nat} {s : Hn} {keys : List H32} {datas : List Bs} {k k' : Nat} (h : LInv w0 w D F P s keys datas k) (hk : k ≤ k') : LInv w0 w D F P s keys datas k' := by
  induction hk with
  | refl => exact h
  | step _ ih => exact ih.more
/-- the load of an op out of a script -/
theorem ops_load {w W : World} {b off : Nat} {o : Opv} (h : w.rangeAt b off (opC o)) (hb : Below w.heap.size w W) : (Instr.loadAt 66 (.pointer (some ⟨b, off, none⟩))).run Try.prog W = .ok (.agg (opC o).toArray) W := by
  refine run_loadAt_mid _ _ _ _ _ _ (range_bel h hb) Try.underlying66 rfl ?_
  rw [opC_len]
  kernel_rfl
end Go.Proofs.Ytcbglojjbgenlaa
