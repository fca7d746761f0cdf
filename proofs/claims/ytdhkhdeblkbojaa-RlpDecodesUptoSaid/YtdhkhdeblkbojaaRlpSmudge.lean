/- cairnlaw05.room; what an append behind one of many lists leaves. -/
import Derived.Test.YtdhkhdeblkbojaaRlpGather
import Derived.Laws.BitsAllLaws
set_option linter.unusedSimpArgs false
namespace Go.Proofs.Ytdhkhdeblkbojaa
open Go.RowKit
attribute [local go_sem ↓] Go.wp_at_zero Go.wp_at_succ
attribute [local go_sem] size_gr cell_gr frozen_gr setCell_gr gr_drew gr_drewN lt_k lt_kc le_k le_kc sub_kc

set_option maxRecDepth 100000 in
set_option maxHeartbeats 2000000 in
theorem room_any (m : UInt8) (w : World) : Calls Try.prog 61 #[.int .u8 ((m.toNat : Nat) : Int)] w fun e w' => ∃ v, e = .returned v ∧ OwnB w' w.heap.size v (List.replicate 64 m) ∧ Below w.heap.size w w' := by
  have hmk : ∀ w, (Instr.makeSlice 22 (.int .i64 64) (.int .i64 64)).run Try.prog w = .ok (.slice (some ⟨w.heap.size, 0, none⟩) 64 64) (w.alloc (zObj 64)) := make_z 64 (by omega)
  have hown := own_z w 64 (by omega) rfl
  have HOwn := Lib.hid hown
  have h8 := u8_lt m
  clear hown
  go_enter Try.func61, Try.ntmps61
  go_wp2_with fail
  go_loopw [8] (fun v wr => ∃ c : Nat, c ≤ 64 ∧ v = .int .i64 c ∧ OwnB wr w.heap.size (.slice (some ⟨w.heap.size, 0, none⟩) 64 64) (List.replicate c m ++ (zeros 64).drop c) ∧ Below w.heap.size w wr) (fun v _ => 64 - (intOf v).toNat)
  case atStart => exact ⟨0, by omega, rfl, by simpa using HOwn.out, by (repeat (first | exact Below.refl _ _ | refine bg_al ?_ | refine bg_gr ?_ | refine bg_drn ?_ | refine bg_dr ?_ | assumption))⟩
  case round =>
    obtain ⟨c, hc, rfl, hown, hbel⟩ := hrel
    by_cases h1 : c < 64
    · have h1i : (c : Int) < 64 := by omega
      have hi0 : (0 : Int) ≤ (c : Int) := by omega
      have hsz := hown.lt w.heap.size rfl
      have hf := hown.unfrozen c
      have hlen : (List.replicate c m ++ (zeros 64).drop c).length = 64 := by simp [zeros]; omega
      obtain ⟨old, hcc⟩ : ∃ u, wr.cell? ⟨w.heap.size, c, none⟩ = some u := by
        obtain ⟨A, cc, e, hr, -⟩ := hown.form
        injection e with e1 e2 e3
        subst e1
        obtain ⟨b, o, e, hcell⟩ := hr c (by rw [hlen]; omega)
        cases e
        rw [Nat.zero_add] at hcell
        exact ⟨_, hcell⟩
      have hst := OwnB.stored hown (by rw [hlen]) c m
      rw [set_rep (zeros 64) c (by rw [zeros_len]; exact h1)] at hst
      have HSt := Lib.hid hst
      have HB := Lib.hid hbel
      clear hown hst hbel hlen
      go_wp2
      refine ⟨⟨c + 1, by omega, by go_num, HSt.out, HB.out.setCell (Nat.le_refl _) _⟩, by simp [intOf]; omega⟩
    · obtain rfl : c = 64 := by omega
      have h1i : ¬ (64 : Int) < 64 := by omega
      have HO := Lib.hid hown
      clear hown
      go_wp2
      go_ret
      refine ⟨_, rfl, ?_, hbel⟩
      simpa [zeros] using HO.out

/-- behind the list k of many something is appended: what holds of all the others -/
theorem smudge_step {w wi W w' : World} {base k : Nat} {vs xs : List Value} {u5 x' : Value} {p q : Nat → List UInt8} {l1 : List UInt8} {n n5 : Nat}
    (hF : ∀ i (hi : i < vs.length) g, vs[i].ownBlock = some g → g < w.heap.size) (hD : Dist vs) (h1 : k < vs.length) (hsz0 : w.heap.size ≤ wi.heap.size)
    (hXi : OwnF wi base xs q) (hXB : ∀ i (h : i < xs.length) g, xs[i].ownBlock = some g → (∃ h' : i < vs.length, vs[i].ownBlock = some g) ∨ w.heap.size ≤ g) (hxl : xs.length = k)
    (hb : Below wi.heap.size wi W) (hown : OwnF wi base vs p) (hrow : wi.ownsRow w.heap.size 22 1 u5 n5 xs) (hchg : Chg (InS vs) w wi)
    (hap : Appended W base 5 1 vs[k] n ((p k ++ l1).map bv) w' x') :
    OwnB w' base x' (p k ++ l1) ∧ (∀ g, x'.ownBlock = some g → vs[k].ownBlock = some g ∨ w.heap.size ≤ g) ∧
      OwnF w' base vs p ∧ w'.ownsRow w.heap.size 22 1 u5 n5 xs ∧ OwnF w' base xs q ∧ Chg (InS vs) w w' ∧ wi.heap.size ≤ w'.heap.size := by
  have hx' : OwnB w' base x' (p k ++ l1) := OwnB.of hap.1 rfl
  have hg := hap.2.1
  have hbz := hb.size
  have hownW : OwnF W base vs p := fun i hi => own_below (hown i hi) hb
  refine ⟨hx', fun g hgx => ?_, fun i hi => ?_, ?_, fun i hi => ?_, ?_, Nat.le_trans hbz hg.size⟩
  · rcases hap.2.2 with ⟨e1, e2⟩ | ⟨e1, _⟩
    · exact .inl (e1 ▸ hgx)
    · rw [e1] at hgx
      injection hgx with hgx
      exact .inr (by omega)
  · by_cases hik : i = k
    · subst hik
      rcases hap.2.2 with ⟨e3, e4⟩ | ⟨e3, e4⟩
      · refine own_prefix hx' (hownW i hi) e3 e4 (by simp) ?_ (Nat.le_refl _)
        rw [List.map_append, List.take_left' (by simp)]
      · exact own_below (hownW i hi) e4
    · exact own_grown (hownW i hi) hg (fun g' hg' e => hD i k hi h1 hik g' hg' e)
  · exact own_grown (own_below hrow hb) hg (fun g' hg' e => own_type_ne hrow (hown k h1) (by decide) g' hg' e)
  · refine own_grown (own_below (hXi i hi) hb) hg (fun g' hg' e => ?_)
    rcases hXB i hi g' hg' with ⟨h', hv⟩ | hge
    · exact hD i k h' h1 (by omega) g' hv e
    · have := hF k h1 g' e
      omega
  · exact (hchg.trans (Below.chg _ hb)).grown hg (fun g hg' => .inl ⟨k, h1, hg'⟩)

def pb (i j : Nat) : UInt8 := UInt8.ofNat (37 * i + j)
theorem pb_bv (i j : Nat) : bv (pb i j) = .int .u8 (IntKind.u8.wrap (37 * (i : Int) + (j : Int))) := by
  simp [bv, pb, IntKind.wrap_u8]
theorem pb_val (i j : Nat) : (((pb i j).toNat : Nat) : Int) = IntKind.u8.wrap (37 * (i : Int) + (j : Int)) := by
  simp [pb, IntKind.wrap_u8]
def pat (f : Nat → List UInt8) (i : Nat) : List UInt8 := (List.range (f i).length).map (pb i)
theorem pat_len (f : Nat → List UInt8) (i : Nat) : (pat f i).length = (f i).length := by simp [pat]
theorem set_pat (i : Nat) (l : List UInt8) (j : Nat) (h : j < l.length) : ((List.range j).map (pb i) ++ l.drop j).set j (pb i j) = (List.range (j + 1)).map (pb i) ++ l.drop (j + 1) := by
  have e := List.drop_eq_getElem_cons h
  rw [e, List.set_append_right _ _ (by simp), List.length_map, List.length_range, Nat.sub_self, List.set_cons_zero, List.range_succ, List.map_append, List.append_assoc]
  rfl
def rb (m i : Nat) : UInt8 := UInt8.ofNat (m ^^^ (i % 256))
theorem rb_val (m i : Nat) (hm : m < 256) : bits .xor .u8 (m : Int) (IntKind.u8.wrap (i : Int)) = (((rb m i).toNat : Nat) : Int) := by
  have e : IntKind.u8.wrap (i : Int) = ((i % 256 : Nat) : Int) := by simp [IntKind.wrap_u8]
  have hx : m ^^^ (i % 256) < 256 := Nat.xor_lt_two_pow (n := 8) (by omega) (by omega)
  rw [e, u8_xor_nat m (i % 256) hm (by omega)]
  simp only [rb, UInt8.toNat_ofNat']
  rw [Nat.mod_eq_of_lt hx]
end Go.Proofs.Ytdhkhdeblkbojaa
