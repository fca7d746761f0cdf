/- The walk of (*rlp.reader).length. -/
import Derived.Test.YtdhkhdeblkbojaaRlpSpec
import Derived.Test.YtdhkhdeblkbojaaLaw01
import Derived.LoopTactic
import Derived.Test.YtdhkhdeblkbojaaRows
namespace Go.Proofs.Ytdhkhdeblkbojaa
open Go.RowKit
attribute [local go_sem ↓] Go.wp_at_zero Go.wp_at_succ

/-- The reader's block: its bytes and its place. -/
structure Rdr (w : World) (gr : Nat) (A : Option Addr) (b : List UInt8) (cb p : Nat) : Prop where
  blk : w.heap[gr]? = some (.cells #[.slice A b.length cb, .int .i64 (p : Int)] 114 (0, 0))
  rd : RdB w A b
  le : b.length ≤ cb
  mx : cb ≤ maxLen

theorem Rdr.c0 {w : World} {gr : Nat} {A : Option Addr} {b : List UInt8} {cb p : Nat} (h : Rdr w gr A b cb p) : w.cell? ⟨gr, 0, none⟩ = some (.slice A b.length cb) := by
  rw [cell_of_row w gr 0 _ _ _ h.blk]; rfl
theorem Rdr.c1 {w : World} {gr : Nat} {A : Option Addr} {b : List UInt8} {cb p : Nat} (h : Rdr w gr A b cb p) : w.cell? ⟨gr, 1, none⟩ = some (.int .i64 (p : Int)) := by
  rw [cell_of_row w gr 1 _ _ _ h.blk]; rfl
theorem Rdr.fz {w : World} {gr : Nat} {A : Option Addr} {b : List UInt8} {cb p : Nat} (h : Rdr w gr A b cb p) : w.frozen? ⟨gr, 1, none⟩ = false := frozen_of_row _ _ _ _ _ h.blk
theorem Rdr.ne {w : World} {gr : Nat} {A : Option Addr} {b : List UInt8} {cb p : Nat} (h : Rdr w gr A b cb p) : ∀ a, A = some a → 0 < b.length → a.block ≠ gr := fun a ha hb e => by
  obtain ⟨bl, off, e1, hc⟩ := h.rd 0 hb
  rw [ha] at e1
  cases e1
  simp only at e
  subst e
  rw [cell_of_row w bl (off + 0) _ _ _ h.blk] at hc
  match off, hc with
  | 0, hc => simp at hc
  | 1, hc => simp at hc
  | n + 2, hc => simp at hc
theorem Rdr.lt {w : World} {gr : Nat} {A : Option Addr} {b : List UInt8} {cb p : Nat} (h : Rdr w gr A b cb p) : gr < w.heap.size := (Array.getElem?_eq_some_iff.1 h.blk).1
/-- another place -/
theorem Rdr.step {w : World} {gr : Nat} {A : Option Addr} {b : List UInt8} {cb p : Nat} (h : Rdr w gr A b cb p) (q : Nat) : Rdr (w.setCell ⟨gr, 1, none⟩ (.int .i64 (q : Int))) gr A b cb q := by
  refine ⟨?_, fun k hk => ?_, h.le, h.mx⟩
  · exact heap_setCell_same w gr 1 _ _ _ h.blk
  · obtain ⟨bl, off, e, hc⟩ := h.rd k hk
    refine ⟨bl, off, e, ?_⟩
    rw [World.cell?_setCell_other w _ _ _ (fun e' => h.ne _ e (by omega) (by injection e' with e'; exact e'.symm))]
    exact hc
theorem Rdr.keep {w w' : World} {gr : Nat} {A : Option Addr} {b : List UInt8} {cb p : Nat} (h : Rdr w gr A b cb p) (hb : Below w.heap.size w w') : Rdr w' gr A b cb p :=
  ⟨(hb.block gr h.lt).trans h.blk, h.rd.below hb, h.le, h.mx⟩

/-- the panic that carries a fault -/
abbrev Fault (p : Nat) (e : Int) : Ending := .panicked [{ v := .iface 92 (.agg #[.int .i64 (p : Int), .int .i64 e]), recovered := false }]

/-- what length leaves -/
def LenPost (w : World) (gr : Nat) (A : Option Addr) (b : List UInt8) (cb : Nat) (r : DR Nat) (e : Ending) (w' : World) : Prop :=
  match r with
  | .ok n to => e = .returned (.int .i64 (n : Int)) ∧ Rdr w' gr A b cb to ∧ Chg (· = gr) w w'
  | .bad p q => e = Fault p q ∧ Chg (· = gr) w w'

theorem u64_join (m c : Nat) (hm : m < 72057594037927936) (hc : c < 256) : bits .or .u64 ((m : Int) * 256) (c : Int) = ((m * 256 + c : Nat) : Int) := by
  have h := u64_or_nat (m * 256) c (by omega) (by omega)
  rw [nat_join 8 _ _ (by omega) (by omega)] at h
  exact h
theorem beNat_take (cs : List UInt8) (j : Nat) (hj : j < 8) : beNat (cs.take j) < 72057594037927936 := by
  have h1 := beNat_lt (cs.take j)
  have h2 : (cs.take j).length ≤ 7 := by have := List.length_take_le j cs; omega
  have h3 : 256 ^ (cs.take j).length ≤ 256 ^ 7 := Nat.pow_le_pow_right (by decide) h2
  have h4 : (256 : Nat) ^ 7 = 72057594037927936 := by decide
  omega
theorem Rdr.drewN {w : World} {gr : Nat} {A : Option Addr} {b : List UInt8} {cb p : Nat} (h : Rdr w gr A b cb p) (n : Nat) : Rdr (w.drewN n) gr A b cb p := ⟨h.blk, h.rd, h.le, h.mx⟩
theorem getD_at {l : List UInt8} {k : Nat} (h : k < l.length) : l.getD k 0 = l[k] := by simp [List.getD, h]

set_option maxRecDepth 100000 in
set_option maxHeartbeats 1000000 in
theorem length_any (gr : Nat) (A : Option Addr) (b : List UInt8) (cb p e : Nat) (w : World) (h : Rdr w gr A b cb p) (hp : p < e) (he : e ≤ b.length) (hb : b.length ≤ 1099511627776) :
    Calls Try.prog 77 #[.pointer (some ⟨gr, 0, none⟩), .int .i64 (e : Int)] w (LenPost w gr A b cb (headN b p e)) := by
  obtain ⟨bl, off, rfl, hc⟩ := h.rd p (by omega)
  have c0 := h.c0
  have c1 := h.c1
  have f1 := h.fz
  have hne : bl ≠ gr := h.ne _ rfl (by omega)
  have hstep := h.step (p + 1)
  have h8 := u8_lt b[p]
  have hi1 : (p : Int) < (b.length : Int) := by omega
  have hle := h.le
  have hmx := h.mx
  unfold maxLen at hmx
  have HG := Lib.hid (getD_at (l := b) (k := p) (by omega))
  have HS := Lib.hid hstep
  have HR := Lib.hid h
  clear hstep h
  by_cases h56 : b[p].toNat % 64 < 56
  · have hf : Hid (headN b p e = .ok (b[p].toNat % 64) (p + 1)) := by
      show headN b p e = _
      unfold headN
      rw [HG.out, if_pos h56]
    have h56' : ((b[p].toNat : Nat) : Int) % 64 < 56 := by omega
    clear h56
    go_enter Try.func77, Try.ntmps77
    go_wp2
    go_ret
    rw [hf.out]
    exact ⟨rfl, HS.out, (Chg.refl (· = gr) _).setCell rfl _⟩
  · have h56' : ¬ ((b[p].toNat : Nat) : Int) % 64 < 56 := by omega
    by_cases hk : e - (p + 1) < b[p].toNat % 64 - 55
    · have hf : Hid (headN b p e = .bad p 50) := by
        show headN b p e = _
        unfold headN
        rw [HG.out, if_neg h56, if_pos hk]
      have hk' : (e : Int) - ((p : Int) + 1) < ((b[p].toNat : Nat) : Int) % 64 - 56 + 1 := by omega
      clear h56 hk
      go_enter Try.func77, Try.ntmps77
      go_wp2
      refine ⟨rfl, ?_⟩
      rw [hf.out]
      exact ⟨rfl, (Chg.refl (· = gr) _).setCell rfl _⟩
    · obtain ⟨k, hkd⟩ : ∃ k, k = b[p].toNat % 64 - 55 := ⟨_, rfl⟩
      rw [← hkd] at hk
      have hkI : ((b[p].toNat : Nat) : Int) % 64 - 56 + 1 = (k : Int) := by omega
      have hk1 : 1 ≤ k := by omega
      have hk8 : k ≤ 8 := by omega
      have hke : p + 1 + k ≤ e := by omega
      have hke' : ¬ (e : Int) - ((p : Int) + 1) < (k : Int) := by omega
      have HKD := Lib.hid hkd
      have hp1 : p + 1 < b.length := by omega
      obtain ⟨bl', off', ebo, hc1⟩ := HR.out.rd (p + 1) hp1
      simp only [Option.some.injEq, Addr.mk.injEq, and_true] at ebo
      obtain ⟨rfl, rfl⟩ := ebo
      have HG1 := Lib.hid (getD_at (l := b) (k := p + 1) hp1)
      have h81 := u8_lt b[p + 1]
      have hi2 : (p : Int) + 1 < (b.length : Int) := by omega
      have hi3 : ((p : Int) + 1).toNat = p + 1 := by omega
      by_cases h0 : b[p + 1].toNat = 0
      · have hf : Hid (headN b p e = .bad p 52) := by
          show headN b p e = _
          unfold headN
          rw [HG.out, if_neg h56, ← HKD.out, if_neg hk, HG1.out, if_pos h0]
        have h0' : (((b[p + 1].toNat : Nat) : Int) == 0) = true := by simp; omega
        clear h56 hk hkd h0
        go_enter Try.func77, Try.ntmps77
        go_wp2_with fail
        go_quiet (fail)
        go_wp2
        refine ⟨rfl, ?_⟩
        rw [hf.out]
        exact ⟨rfl, ((Chg.refl (· = gr) _).setCell rfl _).drewN _⟩
      · have h0' : (((b[p + 1].toNat : Nat) : Int) == 0) = false := by simp; omega
        have hsl : ∀ W, (Instr.slice 22 (.slice (some ⟨bl, off, none⟩) b.length cb) (some (.int .i64 ((p : Int) + 1))) (some (.int .i64 ((p : Int) + 1 + (k : Int)))) none).run Try.prog W = .ok (.slice (cutA (some ⟨bl, off, none⟩) cb (p + 1)) k (cb - (p + 1))) W := fun W => by
          have h := run_slice_fromto bytesT (some ⟨bl, off, none⟩) b.length cb (p + 1) (p + 1 + k) (by omega) (by omega) W
          have e1 : ((p + 1 : Nat) : Int) = (p : Int) + 1 := by omega
          have e2 : ((p + 1 + k : Nat) : Int) = (p : Int) + 1 + (k : Int) := by omega
          have e3 : p + 1 + k - (p + 1) = k := by omega
          rw [e1, e2, e3] at h
          exact h
        have hrc : RdB (w.setCell ⟨gr, 1, none⟩ (.int .i64 ((p : Int) + 1))) (cutA (some ⟨bl, off, none⟩) cb (p + 1)) ((b.drop (p + 1)).take k) := (RdB.cut HS.out.rd hle).take k
        have hcl : ((b.drop (p + 1)).take k).length = k := by simp; omega
        have hfin : Hid (headN b p e = if 1048576 < beNat ((b.drop (p + 1)).take k) then .bad p 54 else if beNat ((b.drop (p + 1)).take k) < 56 then .bad p 52 else .ok (beNat ((b.drop (p + 1)).take k)) (p + 1 + k)) := by
          show headN b p e = _
          unfold headN
          rw [HG.out, if_neg h56, ← HKD.out, if_neg hk, HG1.out, if_neg h0]
        generalize (b.drop (p + 1)).take k = cs at *
        generalize cutA (some ⟨bl, off, none⟩) cb (p + 1) = A' at *
        have HCL := Lib.hid hcl
        clear h56 hk hkd h0 hcl
        have hs1 : IntKind.i64.wrap ((p : Int) + 1 + (k : Int)) = (p : Int) + 1 + (k : Int) := IntWalk.i64_in _ (by omega)
        go_enter Try.func77, Try.ntmps77
        go_wp2_with fail
        go_quiet (fail)
        go_wp2_with fail
        go_quiet (fail)
        go_wp2_with fail
        clear hs1 hsl
        go_loop [8, 80] (fun n i => ∃ j : Nat, j ≤ k ∧ i = .int .i64 j ∧ n = .int .u64 ((beNat (cs.take j) : Nat) : Int)) (fun _ i => k - (intOf i).toNat)
        case atStart => exact ⟨0, by omega, rfl, rfl⟩
        case round =>
          obtain ⟨j, hj, rfl, rfl⟩ := hrel
          by_cases hjk : j < k
          · have hjl : j < cs.length := by rw [HCL.out]; exact hjk
            obtain ⟨b2, o2, rfl, hcj⟩ := hrc j hjl
            have h8j := u8_lt cs[j]
            have hm := beNat_take cs j (by omega)
            have HSN : Hid (beNat (cs.take (j + 1)) = beNat (cs.take j) * 256 + cs[j].toNat) := by
              show _ = _
              rw [take_snoc cs j hjl, beNat_snoc]
            have hor := u64_join (beNat (cs.take j)) cs[j].toNat hm cs[j].toNat_lt
            have hij : (j : Int) < (k : Int) := by omega
            generalize beNat (cs.take j) = m at *
            go_wp2
            exact ⟨⟨_, _, _, ⟨j + 1, by omega, by go_num, by rw [HSN.out]; rfl⟩, rfl, rfl, rfl⟩, by simp [intOf]; omega⟩
          · have hjk' : j = k := by omega
            subst hjk'
            have HT := Lib.hid (List.take_of_length_le (l := cs) (i := j) (by rw [HCL.out]; exact Nat.le_refl _))
            have hij : ¬ (j : Int) < (j : Int) := by omega
            have hm : beNat cs < 18446744073709551615 + 1 := by
              have h1 := beNat_lt cs
              have h2 : 256 ^ cs.length ≤ 256 ^ 8 := Nat.pow_le_pow_right (by decide) (by rw [HCL.out]; exact hk8)
              have h4 : (256 : Nat) ^ 8 = 18446744073709551615 + 1 := by decide
              omega
            rw [HT.out]
            have HM := Lib.hid hm
            clear hm
            generalize beNat cs = m at *
            by_cases h1 : 1048576 < m
            · have hf : Hid (headN b p e = .bad p 54) := by show _ = _; rw [hfin.out, if_pos h1]
              have h1' : (1048576 : Int) < (m : Int) := by omega
              clear h1
              go_wp2
              refine ⟨rfl, ?_⟩
              rw [hf.out]
              exact ⟨rfl, ((Chg.refl (· = gr) _).setCell rfl _).drewN _ |>.setCell rfl _⟩
            · have h1' : ¬ (1048576 : Int) < (m : Int) := by omega
              by_cases h2 : m < 56
              · have hf : Hid (headN b p e = .bad p 52) := by show _ = _; rw [hfin.out, if_neg h1, if_pos h2]
                have h2' : (m : Int) < 56 := by omega
                clear h1 h2
                go_wp2
                refine ⟨rfl, ?_⟩
                rw [hf.out]
                exact ⟨rfl, ((Chg.refl (· = gr) _).setCell rfl _).drewN _ |>.setCell rfl _⟩
              · have hf : Hid (headN b p e = .ok m (p + 1 + j)) := by show _ = _; rw [hfin.out, if_neg h1, if_neg h2]
                have h2' : ¬ (m : Int) < 56 := by omega
                clear h1 h2
                go_wp2
                go_ret
                rw [hf.out]
                exact ⟨rfl, (HS.out.drewN _).step (p + 1 + j), ((Chg.refl (· = gr) _).setCell rfl _).drewN _ |>.setCell rfl _⟩
end Go.Proofs.Ytdhkhdeblkbojaa
