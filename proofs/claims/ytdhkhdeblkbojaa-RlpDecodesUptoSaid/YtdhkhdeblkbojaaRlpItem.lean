/- The walks of (*rlp.reader).item and (*rlp.reader).list, together. -/
import Derived.Test.YtdhkhdeblkbojaaRlpMem
import Derived.Deep.DeepCutAuto
import Derived.Deep.CutBlock
namespace Go.Proofs.Ytdhkhdeblkbojaa
open Go.RowKit
attribute [local go_sem ↓] Go.wp_at_zero Go.wp_at_succ

def ItemPost (w : World) (gr : Nat) (A : Option Addr) (b : List UInt8) (cb : Nat) (r : DR It) (e : Ending) (w' : World) : Prop :=
  match r with
  | .ok x tq => ∃ v0 v1 v2 sv, e = .returned (.agg #[v0, v1, v2]) ∧ RdI w' (Made w w') v0 v1 v2 x sv ∧ OwnS w' w.heap.size sv ∧ Rdr w' gr A b cb tq ∧ Chg (· = gr) w w'
  | .bad p q => e = Fault p q ∧ Chg (· = gr) w w'
def asList : DR (List It) → DR It
  | .ok xs tq => .ok (.mk true [] xs) tq
  | .bad p q => .bad p q

theorem Rdr.chgNew {w w' : World} {gr : Nat} {A : Option Addr} {b : List UInt8} {cb p : Nat} (h : Rdr w gr A b cb p) {S : Nat → Prop} (hc : Chg S w w') (hs : ∀ k, S k → w.heap.size ≤ k) : Rdr w' gr A b cb p :=
  h.keep (hc.bel hs (Nat.le_refl _))

theorem RdI.leaf {w : World} {T : Nat → Prop} {v1 : Value} {bs : List UInt8} (l : Bool) (h : SB w v1 bs) (hf : Fr T v1) : RdI w T (.bool l) v1 (.slice none 0 0) (.mk l bs []) [v1] :=
  RdI.mk l v1 bs none 0 [] h hf (by simp) (by simp [maxLen]) (fun _ => rfl) (fun a ha => by cases ha) ⟨none, 0, rfl, rfl, fun j u hj => by simp at hj⟩ (fun e he => by cases he)

theorem RdI.form {w : World} {T : Nat → Prop} {v0 v1 v2 : Value} {x : It} {sv : List Value} (h : RdI w T v0 v1 v2 x sv) : ∃ l A1 n1 c1 A2 n2 c2, v0 = .bool l ∧ v1 = .slice A1 n1 c1 ∧ v2 = .slice A2 n2 c2 := by
  cases h with
  | mk l v1 bs A c E h1 =>
    obtain ⟨A1, c1, rfl, _⟩ := h1
    exact ⟨l, A1, _, c1, A, _, c, rfl, rfl, rfl⟩

theorem Rdr.chg {S : Nat → Prop} {w w' : World} {gr : Nat} {A : Option Addr} {b : List UInt8} {cb p : Nat} (h : Rdr w gr A b cb p) (hc : Chg S w w') (hg : ¬ S gr) (ha : ∀ a, A = some a → ¬ S a.block) : Rdr w' gr A b cb p :=
  ⟨(hc.block gr h.lt hg).trans h.blk, h.rd.chg hc ha, h.le, h.mx⟩
theorem OwnS.chg {S : Nat → Prop} {w w' : World} {lo : Nat} {svs : List Value} (h : OwnS w lo svs) (hc : Chg S w w') (hs : ∀ k, S k → k < lo) : OwnS w' lo svs :=
  ⟨fun v hv => by
    obtain ⟨l, hl⟩ := h.1 v hv
    exact ⟨l, own_chg hl hc (fun k hk hS => by have := (hl.lt k hk).1; have := hs k hS; omega)⟩, h.2⟩

/-- what stands in a result's own block is written: the reader's post from the inner one's -/
theorem item_out {w w1 w2 : World} {gr : Nat} {b : List UInt8} {cb tq bl off : Nat} {v0 v1 v2 : Value} {x : It} {sv : List Value} (hgr : gr < w.heap.size) (hbl : bl < w.heap.size)
    (h1 : Chg (· = gr) (w.alloc (.cells #[.bool false, .slice none 0 0, .slice none 0 0] 46)) w1) (hsz : w.heap.size + 1 ≤ w1.heap.size)
    (hrd : RdI w2 (Made w1 w2) v0 v1 v2 x sv) (hos : OwnS w2 w1.heap.size sv) (hr : Rdr w2 gr (some ⟨bl, off, none⟩) b cb tq) (h2 : Chg (· = gr) w1 w2)
    {W3 : World} (h3 : Chg (· = w.heap.size) w2 W3) :
    ∃ u0 u1 u2 sv', Ending.returned (.agg #[v0, v1, v2]) = .returned (.agg #[u0, u1, u2]) ∧ RdI W3 (Made w W3) u0 u1 u2 x sv' ∧ OwnS W3 w.heap.size sv' ∧ Rdr W3 gr (some ⟨bl, off, none⟩) b cb tq ∧ Chg (· = gr) w W3 := by
  refine ⟨v0, v1, v2, sv, rfl, (hrd.chg h3 (fun k hk hT => by unfold Made at hT; omega)).mono (fun k hk => by have := h3.size; unfold Made at hk ⊢; omega), (hos.chg h3 (fun k hk => by omega)).mono (by omega), hr.chg h3 (by omega) (fun a ha => by cases ha; simp only; omega), ?_⟩
  have h12 : Chg (· = gr) w w2 := (((Chg.refl (· = gr) w).alloc _).trans h1).trans h2
  exact ⟨h3.os.trans h12.os, h3.tape.trans h12.tape, h3.output.trans h12.output, Nat.le_trans h12.size h3.size, fun k hk hs => (h3.block k (Nat.lt_of_lt_of_le hk h12.size) (by omega)).trans (h12.block k hk hs)⟩
theorem set3 (w : World) (H : Nat) (u0 u1 u2 : Value) : Chg (· = H) w (((w.setCell ⟨H, 0, none⟩ u0).setCell ⟨H, 1, none⟩ u1).setCell ⟨H, 2, none⟩ u2) :=
  (((Chg.refl (· = H) w).setCell rfl _).setCell rfl _).setCell rfl _

theorem leaf_out {w w1 wc : World} {gr : Nat} {b bs : List UInt8} {cb tq n bl off : Nat} {v1 : Value} (hgr : gr < w.heap.size) (hbl : bl < w.heap.size)
    (h1 : Chg (· = gr) (w.alloc (.cells #[.bool false, .slice none 0 0, .slice none 0 0] 46)) w1) (hsz : w.heap.size + 1 ≤ w1.heap.size)
    (hr : Rdr w1 gr (some ⟨bl, off, none⟩) b cb tq) (ho : OwnB wc w1.heap.size v1 bs) (hbel : Below w1.heap.size w1 wc) (u0 u1 u2 : Value) {W3 : World}
    (hW : W3 = ((((wc.setCell ⟨gr, 1, none⟩ (.int .i64 ((tq : Int) + (n : Int)))).setCell ⟨w.heap.size, 0, none⟩ u0).setCell ⟨w.heap.size, 1, none⟩ u1).setCell ⟨w.heap.size, 2, none⟩ u2)) :
    ∃ x0 x1 x2 sv', Ending.returned (.agg #[.bool false, v1, .slice none 0 0]) = .returned (.agg #[x0, x1, x2]) ∧ RdI W3 (Made w W3) x0 x1 x2 (.mk false bs []) sv' ∧ OwnS W3 w.heap.size sv' ∧ Rdr W3 gr (some ⟨bl, off, none⟩) b cb (tq + n) ∧ Chg (· = gr) w W3 := by
  subst hW
  have hown : OwnB (wc.setCell ⟨gr, 1, none⟩ (.int .i64 ((tq : Int) + (n : Int)))) w1.heap.size v1 bs := own_chg ho ((Chg.refl (· = gr) wc).setCell rfl _) (fun k hk e => by have := (ho.lt k hk).1; omega)
  have hstep : Rdr (wc.setCell ⟨gr, 1, none⟩ (.int .i64 ((tq : Int) + (n : Int)))) gr (some ⟨bl, off, none⟩) b cb (tq + n) := (hr.keep hbel).step (tq + n)
  exact item_out hgr hbl h1 hsz (RdI.leaf false hown.sb hown.fr) (OwnS.one hown) hstep ((Below.chg (· = gr) hbel).setCell rfl _) (set3 _ _ _ _ _)

def ItemsSay (gr : Nat) (A : Option Addr) (b : List UInt8) (cb : Nat) (f : Nat) : Prop :=
  ∀ (w : World) (p e d : Nat), Rdr w gr A b cb p → p ≤ e → e ≤ b.length → d ≤ 80 → 2 * (e - p) + 2 ≤ f →
    Calls Try.prog 78 #[.pointer (some ⟨gr, 0, none⟩), .int .i64 (e : Int), .int .i64 (d : Int)] w (ItemPost w gr A b cb (asList (decL f b p e d)))
def ItemSays (gr : Nat) (A : Option Addr) (b : List UInt8) (cb : Nat) (f : Nat) : Prop :=
  ∀ (w : World) (p e d : Nat), Rdr w gr A b cb p → p ≤ e → e ≤ b.length → d ≤ 80 → 2 * (e - p) + 1 ≤ f →
    Calls Try.prog 74 #[.pointer (some ⟨gr, 0, none⟩), .int .i64 (e : Int), .int .i64 (d : Int)] w (ItemPost w gr A b cb (decI f b p e d))

set_option maxRecDepth 100000 in
set_option maxHeartbeats 2000000 in
theorem item_step (gr : Nat) (A : Option Addr) (b : List UInt8) (cb f : Nat) (hb : b.length ≤ 1099511627776) (hlist : ItemsSay gr A b cb f) : ItemSays gr A b cb (f + 1) := by
  intro w p e d hr hp he hd hf
  have hH := hr.lt
  have HLs := Lib.hid hlist
  have HR := Lib.hid hr
  clear hlist
  have HA0 : Hid (Rdr (w.alloc (.cells #[.bool false, .slice none 0 0, .slice none 0 0] 46)) gr A b cb p) := hr.keep ((Below.refl _ _).alloc (Nat.le_refl _) _)
  have c1 : w.cell? ⟨gr, 1, none⟩ = some (.int .i64 (p : Int)) := hr.c1
  have hgne : gr ≠ w.heap.size := by omega
  by_cases h0 : p = e
  · have hfin : Hid (decI (f + 1) b p e d = .bad p 50) := by show _ = _; rw [decI, if_pos h0]
    have h0' : ((p : Int) == (e : Int)) = true := by simp; omega
    clear h0
    go_enter Try.func74, Try.ntmps74
    go_wp2
    refine ⟨rfl, ?_⟩
    rw [hfin.out]
    exact ⟨rfl, (Chg.refl _ _).alloc _⟩
  · have h0' : ((p : Int) == (e : Int)) = false := by simp; omega
    have hpl : p < b.length := by omega
    obtain ⟨bl, off, rfl, hc⟩ := hr.rd p hpl
    have c0 := hr.c0
    have f1 := hr.fz
    have hne : bl ≠ gr := hr.ne _ rfl (by omega)
    have hblt : bl < w.heap.size := World.block_lt_of_cell? w _ hc
    have hbl : bl ≠ w.heap.size := by omega
    have hbl' : w.heap.size ≠ bl := by omega
    have hgne' : w.heap.size ≠ gr := by omega
    have h8 := u8_lt b[p]
    have hi1 : (p : Int) < (b.length : Int) := by omega
    have HG := Lib.hid (getD_at (l := b) (k := p) hpl)
    have hle := hr.le
    have hmx := hr.mx
    unfold maxLen at hmx
    clear hr
    have H0 := Lib.hid h0
    by_cases h1 : b[p].toNat < 128
    · have hfin : Hid (decI (f + 1) b p e d = .ok (.mk false [b[p]] []) (p + 1)) := by
        show _ = _
        rw [decI, if_neg h0, HG.out, if_pos h1]
      have h1' : ((b[p].toNat : Nat) : Int) < 128 := by omega
      clear h0 h1
      go_enter Try.func74, Try.ntmps74
      go_wp2
      refine bodyPost_ret (v := .agg #[.bool false, .slice (some ⟨w.heap.size + 1, 0, none⟩) 1 1, .slice none 0 0]) (by simp [results, Try.results74, go_sem]) rfl ?_
      rw [hfin.out]
      have hW1 : Chg (· = gr) w ((w.setCell ⟨gr, 1, none⟩ (.int .i64 ((p : Int) + 1))).alloc (.cells #[.bool false, .slice (some ⟨w.heap.size + 1, 0, none⟩) 1 1, .slice none 0 0] 46)) := ((Chg.refl (· = gr) w).setCell rfl _).alloc _
      have hsz : ((w.setCell ⟨gr, 1, none⟩ (.int .i64 ((p : Int) + 1))).alloc (.cells #[.bool false, .slice (some ⟨w.heap.size + 1, 0, none⟩) 1 1, .slice none 0 0] 46)).heap.size = w.heap.size + 1 := by simp [World.setCell]
      have hown : OwnB _ w.heap.size (.slice (some ⟨w.heap.size + 1, 0, none⟩) 1 1) [b[p]] := OwnB.of (lit_at ((w.setCell ⟨gr, 1, none⟩ (.int .i64 ((p : Int) + 1))).alloc (.cells #[.bool false, .slice (some ⟨w.heap.size + 1, 0, none⟩) 1 1, .slice none 0 0] 46)) #[.int .u8 ((b[p].toNat : Nat) : Int)] 5 (size := 1) (n := 1) (base := w.heap.size) hsz (by omega) (by simp [maxLen]) (by rfl)) rfl
      have hstep : Rdr (w.setCell ⟨gr, 1, none⟩ (.int .i64 ((p : Int) + 1))) gr _ b cb (p + 1) := HR.out.step (p + 1)
      exact ⟨_, _, _, [.slice (some ⟨w.heap.size + 1, 0, none⟩) 1 1], rfl, RdI.leaf false hown.sb hown.fr, OwnS.one hown, hstep.keep (((Below.refl _ _).alloc (Nat.le_refl _) _).alloc (by simp) _), hW1.alloc _⟩
    · have h1' : ¬ ((b[p].toNat : Nat) : Int) < 128 := by omega
      by_cases h2 : 192 ≤ b[p].toNat ∧ 80 ≤ d
      · have hfin : Hid (decI (f + 1) b p e d = .bad p 53) := by
          show _ = _
          rw [decI, if_neg h0, HG.out, if_neg h1, if_pos h2]
        have h2' : (192 : Int) ≤ ((b[p].toNat : Nat) : Int) := by omega
        have h2'' : (80 : Int) ≤ (d : Int) := by omega
        clear h0 h1 h2
        go_enter Try.func74, Try.ntmps74
        go_wp2
        refine ⟨rfl, ?_⟩
        rw [hfin.out]
        exact ⟨rfl, (Chg.refl _ _).alloc _⟩
      · have HN := Lib.hid (length_any gr _ b cb p e _ HA0.out (by omega) he hb)
        cases hN : headN b p e with
        | bad q r =>
          have hfin : Hid (decI (f + 1) b p e d = .bad q r) := by
            show _ = _
            rw [decI, if_neg h0, HG.out, if_neg h1, if_neg h2, hN]
          rw [hN] at HN
          have H2 := Lib.hid h2
          clear h0 h1 h2 hN
          by_cases h3 : 192 ≤ b[p].toNat
          · have h3' : (192 : Int) ≤ ((b[p].toNat : Nat) : Int) := by omega
            have h4' : ¬ (80 : Int) ≤ (d : Int) := by have := H2.out; omega
            clear h3
            go_enter Try.func74, Try.ntmps74
            go_wp2_with (go_at_call 77; refine HN.out.mono ?_; rintro en w1 ⟨rfl, hch⟩)
            refine ⟨rfl, ?_⟩
            rw [hfin.out]
            exact ⟨rfl, ((Chg.refl (· = gr) w).alloc _).trans hch⟩
          · have h3' : ¬ (192 : Int) ≤ ((b[p].toNat : Nat) : Int) := by omega
            clear h3
            go_enter Try.func74, Try.ntmps74
            go_wp2_with (go_at_call 77; refine HN.out.mono ?_; rintro en w1 ⟨rfl, hch⟩)
            refine ⟨rfl, ?_⟩
            rw [hfin.out]
            exact ⟨rfl, ((Chg.refl (· = gr) w).alloc _).trans hch⟩
        | ok n tq =>
          obtain ⟨ht1, ht2, ht3⟩ := headN_to hN (show p < e by omega)
          rw [hN] at HN
          have H2 := Lib.hid h2
          have hdec : Hid (decI (f + 1) b p e d = if e - tq < n then .bad p 50
              else if 192 ≤ b[p].toNat then match decL f b tq (tq + n) (d + 1) with
                | .bad q r => .bad q r
                | .ok xs tq' => .ok (.mk true [] xs) tq'
              else if n = 1 ∧ (b.getD tq 0).toNat < 128 then .bad p 52
              else .ok (.mk false ((b.drop tq).take n) []) (tq + n)) := by
            show _ = _
            rw [decI, if_neg h0, HG.out, if_neg h1, if_neg h2, hN]
            rfl
          clear h0 h1 h2 hN
          have hres : ∀ w1, Chg (· = gr) (w.alloc (.cells #[.bool false, .slice none 0 0, .slice none 0 0] 46)) w1 → w1.heap[w.heap.size]? = some (.cells #[.bool false, .slice none 0 0, .slice none 0 0] 46 (0, 0)) ∧ w.heap.size + 1 ≤ w1.heap.size := fun w1 hch =>
            ⟨(hch.block w.heap.size (by simp) (by omega)).trans (heap_alloc_new w _), by have := hch.size; simpa using this⟩
          have HRes := Lib.hid hres
          clear hres
          by_cases h3 : 192 ≤ b[p].toNat
          · have h3' : (192 : Int) ≤ ((b[p].toNat : Nat) : Int) := by omega
            have h4 : ¬ 80 ≤ d := by have := H2.out; omega
            have h4' : ¬ (80 : Int) ≤ (d : Int) := by omega
            by_cases h5 : e - tq < n
            · have hfin : Hid (decI (f + 1) b p e d = .bad p 50) := by show _ = _; rw [hdec.out, if_pos h5]
              have h5' : (e : Int) - (tq : Int) < (n : Int) := by omega
              clear h3 h4 h5
              go_enter Try.func74, Try.ntmps74
              go_wp2_with (go_at_call 77; refine HN.out.mono ?_; rintro en w1 ⟨rfl, hr1, hch⟩; have d1 := hr1.c1; have HCH := Lib.hid hch; clear hch hr1)
              refine ⟨rfl, ?_⟩
              rw [hfin.out]
              exact ⟨rfl, ((Chg.refl (· = gr) w).alloc _).trans HCH.out⟩
            · have h5' : ¬ (e : Int) - (tq : Int) < (n : Int) := by omega
              have hL : ∀ w1, Rdr w1 gr (some ⟨bl, off, none⟩) b cb tq → Calls Try.prog 78 #[.pointer (some ⟨gr, 0, none⟩), .int .i64 ((tq : Int) + (n : Int)), .int .i64 ((d : Int) + 1)] w1 (ItemPost w1 gr (some ⟨bl, off, none⟩) b cb (asList (decL f b tq (tq + n) (d + 1)))) := fun w1 h => by
                have := HLs.out w1 tq (tq + n) (d + 1) h (by omega) (by omega) (by omega) (by omega)
                rw [show ((tq + n : Nat) : Int) = (tq : Int) + (n : Int) by omega, show ((d + 1 : Nat) : Int) = (d : Int) + 1 by omega] at this
                exact this
              have HL := Lib.hid hL
              clear hL
              cases hdl : decL f b tq (tq + n) (d + 1) with
              | bad q r =>
                have hfin : Hid (decI (f + 1) b p e d = .bad q r) := by show _ = _; rw [hdec.out, if_neg h5, if_pos h3, hdl]
                rw [hdl] at HL
                clear h3 h4 h5 hdl
                go_enter Try.func74, Try.ntmps74
                go_wp2_with (first | (go_at_call 77; refine HN.out.mono ?_; rintro en w1 ⟨rfl, hr1, hch⟩; have d1 := hr1.c1; have HCH := Lib.hid hch; have HR1 := Lib.hid hr1; clear hch hr1) | (go_at_call 78; refine (HL.out _ HR1.out).mono ?_; rintro en w2 ⟨rfl, hch2⟩))
                refine ⟨rfl, ?_⟩
                rw [hfin.out]
                exact ⟨rfl, (((Chg.refl (· = gr) w).alloc _).trans HCH.out).trans hch2⟩
              | ok xs tq2 =>
                have hfin : Hid (decI (f + 1) b p e d = .ok (.mk true [] xs) tq2) := by show _ = _; rw [hdec.out, if_neg h5, if_pos h3, hdl]
                rw [hdl] at HL
                clear h3 h4 h5 hdl
                go_enter Try.func74, Try.ntmps74
                go_wp2_with (first | (go_at_call 77; refine HN.out.mono ?_; rintro en w1 ⟨rfl, hr1, hch⟩; have d1 := hr1.c1; have HCH := Lib.hid hch; have HR1 := Lib.hid hr1; clear hch hr1) | (go_at_call 78; refine (HL.out _ HR1.out).mono ?_; rintro en w2 ⟨v0, v1, v2, sv, rfl, hrd, hos, hr2, hch2⟩; obtain ⟨l', A1, n1, cc1, A2, n2, cc2, rfl, rfl, rfl⟩ := hrd.form; have HC2 := Lib.hid hch2; have HR2 := Lib.hid hr2; have HRD := Lib.hid hrd; have HOS := Lib.hid hos; obtain ⟨hblk, hsz1⟩ := HRes.out w1 HCH.out; have hblk2 := (hch2.block w.heap.size (by omega) (by omega)).trans hblk; have k0 := cell_of_row w2 w.heap.size 0 _ _ _ hblk2; have k1 := cell_of_row w2 w.heap.size 1 _ _ _ hblk2; have k2 := cell_of_row w2 w.heap.size 2 _ _ _ hblk2; have z0 := frozen_of_row w2 w.heap.size 0 _ _ hblk2; have z1 := frozen_of_row w2 w.heap.size 1 _ _ hblk2; have z2 := frozen_of_row w2 w.heap.size 2 _ _ hblk2; have HBK := Lib.hid hblk2; have HSZ := Lib.hid hsz1; clear hch2 hr2 hrd hos hblk hblk2 hsz1))
                refine bodyPost_ret (v := .agg #[.bool l', .slice A1 n1 cc1, .slice A2 n2 cc2]) (by simp [results, Try.results74, go_sem, k0, k1, k2]) rfl ?_
                rw [hfin.out]
                exact item_out hH hblt HCH.out HSZ.out HRD.out HOS.out HR2.out HC2.out (set3 _ _ _ _ _)
          · have h3' : ¬ (192 : Int) ≤ ((b[p].toNat : Nat) : Int) := by omega
            by_cases h5 : e - tq < n
            · have hfin : Hid (decI (f + 1) b p e d = .bad p 50) := by show _ = _; rw [hdec.out, if_pos h5]
              have h5' : (e : Int) - (tq : Int) < (n : Int) := by omega
              clear h3 h5
              go_enter Try.func74, Try.ntmps74
              go_wp2_with (go_at_call 77; refine HN.out.mono ?_; rintro en w1 ⟨rfl, hr1, hch⟩; have d1 := hr1.c1; have HCH := Lib.hid hch; clear hch hr1)
              refine ⟨rfl, ?_⟩
              rw [hfin.out]
              exact ⟨rfl, ((Chg.refl (· = gr) w).alloc _).trans HCH.out⟩
            · have h5' : ¬ (e : Int) - (tq : Int) < (n : Int) := by omega
              have hdec2 : Hid (decI (f + 1) b p e d = if n = 1 ∧ (b.getD tq 0).toNat < 128 then .bad p 52 else .ok (.mk false ((b.drop tq).take n) []) (tq + n)) := by
                show _ = _
                rw [hdec.out, if_neg h5, if_neg h3]
              have hsl : ∀ W, (Instr.slice 22 (.slice (some ⟨bl, off, none⟩) b.length cb) (some (.int .i64 (tq : Int))) (some (.int .i64 ((tq : Int) + (n : Int)))) none).run Try.prog W = .ok (.slice (cutA (some ⟨bl, off, none⟩) cb tq) n (cb - tq)) W := fun W => by
                have h := run_slice_fromto bytesT (some ⟨bl, off, none⟩) b.length cb tq (tq + n) (by omega) (by omega) W
                rw [show ((tq + n : Nat) : Int) = (tq : Int) + (n : Int) by omega, show tq + n - tq = n by omega] at h
                exact h
              have hcl : ((b.drop tq).take n).length = n := by simp; omega
              have hcs : ∀ w1, Rdr w1 gr (some ⟨bl, off, none⟩) b cb tq → SB w1 (.slice (cutA (some ⟨bl, off, none⟩) cb tq) n (cb - tq)) ((b.drop tq).take n) := fun w1 h => by
                refine ⟨_, _, by rw [hcl], (h.rd.cut h.le).take n, by rw [hcl]; omega, by unfold maxLen; omega, fun e' => ?_⟩
                unfold cutA at e'
                split at e' <;> cases e'
              have HCS := Lib.hid hcs
              have HCL := Lib.hid hcl
              have hget : n = 1 → ((b.drop tq).take n) = [b.getD tq 0] := fun hn => by
                subst hn
                rw [List.drop_eq_getElem_cons (by omega : tq < b.length), getD_at (by omega : tq < b.length)]
                rfl
              have HGET := Lib.hid hget
              clear h3 h5 hcs hcl hget
              have hs1 : IntKind.i64.wrap ((tq : Int) + (n : Int)) = (tq : Int) + (n : Int) := IntWalk.i64_in _ (by omega)
              go_enter Try.func74, Try.ntmps74
              go_upto_region 15 with (go_at_call 77; refine HN.out.mono ?_; rintro en w1 ⟨rfl, hr1, hch⟩; have HCH := Lib.hid hch; have HR1 := Lib.hid hr1; have d0 := hr1.c0; have d1 := hr1.c1; have g1 := hr1.fz; clear hch hr1)
              go_cut [10] (fun s10 wx => OwnB wx w1.heap.size s10 ((b.drop tq).take n) ∧ Below w1.heap.size w1 wx)
              case first =>
                go_region_held3 (fun w' => w'.cell? ⟨gr, 0, none⟩ = some (.slice (some ⟨bl, off, none⟩) b.length cb) ∧ w'.cell? ⟨gr, 1, none⟩ = some (.int .i64 (tq : Int))) (first | exact ⟨d0, d1⟩ | exact ⟨cell_later hb3 d0, cell_later hb3 d1⟩)
                  (first
                    | (go_at_call 59; refine (clone_any _ ((b.drop tq).take n) _ (HCS.out _ (HR1.out.drewN 1)) (by rw [HCL.out]; omega)).mono ?_; rintro e3 w3 ⟨v3, rfl, ho3, hb3⟩))
                go_wp2_with fail
                go_meet
                case rel => exact ⟨ho3, bel_trans (show Below w1.heap.size w1 _ from (Below.refl _ _).drew) hb3⟩
              case rest =>
                obtain ⟨hown, hbel⟩ := hcut
                have HO := Lib.hid hown
                have HBL := Lib.hid hbel
                have d1 := (HR1.out.keep hbel).c1
                have g1 := (HR1.out.keep hbel).fz
                obtain ⟨hblk, hsz1⟩ := HRes.out w1 HCH.out
                have HSZ := Lib.hid hsz1
                have hblk2 := (hbel.block w.heap.size (by omega)).trans hblk
                have hst := hblk2
                rw [← Below.heap_setCell wc ⟨gr, 1, none⟩ (.int .i64 ((tq : Int) + (n : Int))) w.heap.size (fun e' => hgne' e')] at hst
                have HST := Lib.hid hst
                have k0 := cell_of_row wc w.heap.size 0 _ _ _ hblk2
                have k1 := cell_of_row wc w.heap.size 1 _ _ _ hblk2
                have k2 := cell_of_row wc w.heap.size 2 _ _ _ hblk2
                have z0 := frozen_of_row wc w.heap.size 0 _ _ hblk2
                have z1 := frozen_of_row wc w.heap.size 1 _ _ hblk2
                have z2 := frozen_of_row wc w.heap.size 2 _ _ hblk2
                clear hown hbel hblk hsz1 hblk2 hst hsl hs1
                by_cases hn1 : n = 1
                · have hg := HGET.out hn1
                  have ht1 : ((n : Int) == 1) = true := by simp; omega
                  obtain ⟨A10, c10, rfl, hr10, hc10, hm10, -⟩ := HO.out.form
                  rw [HCL.out] at hc10
                  rw [HCL.out]
                  obtain ⟨b10, o10, rfl, hcell⟩ := hr10 0 (by rw [HCL.out]; omega)
                  have hv : ((b.drop tq).take n)[0]'(by rw [HCL.out]; omega) = b.getD tq 0 := by simp [hg]
                  rw [hv, Nat.add_zero] at hcell
                  unfold maxLen at hm10
                  have hn0 : (0 : Int) < (n : Int) := by omega
                  have HN1 := Lib.hid hn1
                  by_cases hlow : (b.getD tq 0).toNat < 128
                  · have hfin : Hid (decI (f + 1) b p e d = .bad p 52) := by show _ = _; rw [hdec2.out, if_pos ⟨hn1, hlow⟩]
                    have hlow' : (((b.getD tq 0).toNat : Nat) : Int) < 128 := by omega
                    clear hn1 hlow hg hv
                    generalize (b.getD tq 0).toNat = z at hcell hlow'
                    go_wp2
                    refine ⟨rfl, ?_⟩
                    rw [hfin.out]
                    exact ⟨rfl, (((Chg.refl (· = gr) w).alloc _).trans HCH.out).trans (Below.chg _ HBL.out)⟩
                  · have hfin : Hid (decI (f + 1) b p e d = .ok (.mk false ((b.drop tq).take n) []) (tq + n)) := by show _ = _; rw [hdec2.out, if_neg (fun h => hlow h.2)]
                    have hlow' : ¬ (((b.getD tq 0).toNat : Nat) : Int) < 128 := by omega
                    clear hn1 hlow hg hv
                    generalize (b.getD tq 0).toNat = z at hcell hlow'
                    go_wp2
                    refine bodyPost_ret (v := .agg #[.bool false, .slice (some ⟨b10, o10, none⟩) n c10, .slice none 0 0]) (by simp [results, Try.results74, go_sem, k0, k1, k2]) rfl ?_
                    rw [hfin.out]
                    have hO := HO.out
                    rw [HCL.out] at hO
                    exact leaf_out hH hblt HCH.out HSZ.out HR1.out hO HBL.out _ _ _ rfl
                · have ht1 : ((n : Int) == 1) = false := by simp; omega
                  have hfin : Hid (decI (f + 1) b p e d = .ok (.mk false ((b.drop tq).take n) []) (tq + n)) := by show _ = _; rw [hdec2.out, if_neg (fun h => hn1 h.1)]
                  obtain ⟨A10, c10, rfl, -⟩ := HO.out.form
                  have hO := HO.out
                  rw [HCL.out] at hO
                  rw [HCL.out]
                  have HO2 := Lib.hid hO
                  clear hn1 hO
                  go_wp2
                  refine bodyPost_ret (v := .agg #[.bool false, .slice A10 n c10, .slice none 0 0]) (by simp [results, Try.results74, go_sem, k0, k1, k2]) rfl ?_
                  rw [hfin.out]
                  exact leaf_out hH hblt HCH.out HSZ.out HR1.out HO2.out HBL.out _ _ _ rfl
end Go.Proofs.Ytdhkhdeblkbojaa
