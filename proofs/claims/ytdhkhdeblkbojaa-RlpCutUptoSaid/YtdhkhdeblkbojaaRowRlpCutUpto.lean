/- RlpCut: for every input (whose bulk is at most 1048576) the law returns true, and its arguments read as they did. -/
import Derived.Test.YtdhkhdeblkbojaaRlpCut
import Derived.Test.YtdhkhdeblkbojaaFrameTwo
import Derived.Test.YtdhkhdeblkbojaaFrame
namespace Go.Proofs.Ytdhkhdeblkbojaa.rlpCutUpto
open Go.ChangeShapes Go.WideShapes Go.ChangeAt Go.RowKit
set_option maxRecDepth 100000 in
theorem lifted (os : Os) (started : os.Started) (H : Type) (enc : TypeId × Value → H) (F : Stop.Interp) :
    ReturnsInHanded {} Try.checked os 9 .any ((Rows.OpenSpec.upto Rows.rlpCutSpec).pre6 enc Try.prog Try.f9 Rows.rlpCutUptoRow.domain false) (((Rows.OpenSpec.upto Rows.rlpCutSpec).at F).post enc Try.prog Try.f9 false true false false) := by
  refine returnsInHanded_of_cond (C := Try.checked) (s := Rows.OpenSpec.upto Rows.rlpCutSpec) (k := Rows.uptoSmall) rfl Fr.own started (by kernel_rfl) Try.func9
    (OpenSpec.witness (enc := enc) (C := Try.checked) (s := Rows.OpenSpec.upto Rows.rlpCutSpec) (k := Rows.uptoSmall) rfl false ⟨#[], #[.agg #[.bool false, .slice none 0 0, .slice none 0 0, .bool false, .slice none 0 0, .slice none 0 0], .int .i64 0, .slice none 0 0], []⟩ 8 (by kernel_rfl) (by kernel_rfl) (by kernel_rfl)
      (x := ([.agg [.agg [.lit (.bool false), .nil, .nil], .agg [.lit (.bool false), .nil, .nil]], .lit (.int .i64 0), .nil], [], [])) (by kernel_rfl) rfl (by kernel_rfl)) ?_
  intro W base args ds gs before hval0 hW _ hk0 _
  have hk : Rows.uptoSmall H (ds ++ gs) = true := hk0
  have hval : ∀ (j : Nat) t v, Try.f9.params[j]? = some t → args[j]? = some v → Value.okWide Try.prog W .any base t v := hval0
  have hW' := hW
  obtain ⟨p, q, hA0, hV, rfl, _, _⟩ := hW
  have hA : DataW.TrodAll enc Try.prog W 0 (fun _ => true) true Try.f9.params.toList args.toList ds p := hA0
  rw [Try.params9] at hA hval
  obtain ⟨v0, vs0, d0, ds0, p0, q0, hargs, rfl, rfl, t0, r0⟩ := trodAll_cons hA
  obtain ⟨v1, vs1, d1, ds1, p1, q1, rfl, rfl, rfl, t1, r1⟩ := trodAll_cons r0
  obtain ⟨v2, vs2, d2, ds2, p2, q2, rfl, rfl, rfl, t2, r2⟩ := trodAll_cons r1
  obtain ⟨rfl, rfl, rfl⟩ := trodAll_nil r2
  obtain rfl : args = #[v0, v1, v2] := by cases args; simp_all
  obtain ⟨rfl, rfl⟩ := trodVars_none hV
  obtain ⟨cs0, rfl, -⟩ := okWide_struct Try.underlying61 (hval 0 61 v0 rfl rfl)
  have k0 := t0
  have lt0 : ∀ x ∈ p0, x.block < W.heap.size := by obtain ⟨m, hm⟩ := k0; exact DataW.trod_lt m _ _ _ hm
  obtain ⟨f0, tf0⟩ := t0
  obtain ⟨x00, x01, x02, it0, sv0, y00, y01, y02, jt0, tv0, e0, h0, g0, wt0⟩ := view_two tf0
  obtain rfl : cs0 = #[x00, x01, x02, y00, y01, y02] := by cases cs0; simpa [Value.cells] using e0
  have b0 : wtI it0 + wtI jt0 ≤ 16777216 := by have h1 := bulk_bound hk; simp only [List.append_nil, Rows.uptoBulkAll] at h1; dsimp only at wt0; omega
  obtain ⟨x1, rfl, rfl, rfl, w1⟩ := open_int Try.underlying3 (hval 1 3 v1 rfl rfl) t1
  obtain ⟨a2, len2, cap2, rfl⟩ := okWide_slice Try.underlying22 (hval 2 22 v2 rfl rfl)
  have k2 := t2
  have lt2 : ∀ x ∈ p2, x.block < W.heap.size := by obtain ⟨m, hm⟩ := k2; exact DataW.trod_lt m _ _ _ hm
  obtain ⟨f2, tf2⟩ := t2
  obtain ⟨l2, e2, h2, hd2⟩ := view_bytes tf2
  have b2 : len2 ≤ 1048576 := by have h1 := bulk_bound hk; have h2 := bulk_bytes hd2; simp only [List.append_nil, Rows.uptoBulkAll] at h1; dsimp only at h2; omega
  subst e2
  clear hA0 hval0
  refine (cut_walk x1 h0 g0 (by omega) (by omega) h2 (by omega)).mono fun e W' ⟨he, bel⟩ => ?_
  subst he
  exact ⟨_, rfl, _, _, _, [], _, [], hW', trodAll_mk1 (shut_bool Try.underlying4 _), (trodAll_cons_mk (Below.trod Fr.laidOut (by kernel_rfl) (of_decide_eq_true (by kernel_rfl)) k0 bel lt0) (trodAll_cons_mk (shut_int Try.underlying3 w1) (trodAll_cons_mk (Below.trod Fr.laidOut (by kernel_rfl) (of_decide_eq_true (by kernel_rfl)) k2 bel lt2) trodAll_mk0))), rfl, bel.frame _, fun h => by cases h⟩

theorem proved : Rows.RlpCutUptoSaid :=
  OpenClaim.holds_of_cond 9 Try.f9 rfl rfl rfl rfl rfl rfl rfl ⟨rfl, rfl, rfl, rfl, rfl⟩ rfl rfl rfl rfl rfl (by kernel_rfl) Try.func9 (by kernel_rfl)
    (of_decide_eq_true (by kernel_rfl)) (by unfold Func.isWrapper; first | (rw [if_pos (by decide +kernel)]; kernel_rfl) | (rw [if_neg (by decide +kernel)]; exact ⟨rfl, rfl⟩))
    (fun os started H enc _ F => lifted os started H enc F)
#print axioms proved
end Go.Proofs.Ytdhkhdeblkbojaa.rlpCutUpto
