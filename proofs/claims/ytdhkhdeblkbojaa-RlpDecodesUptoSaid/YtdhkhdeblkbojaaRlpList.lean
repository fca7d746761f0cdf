/- The walk of (*rlp.reader).list; both readers by one induction. -/
import Derived.Test.YtdhkhdeblkbojaaRlpItem
import Derived.Deep.RegionWith
import Derived.Deep.RegionLaw
namespace Go.Proofs.Ytdhkhdeblkbojaa
open Go.RowKit
attribute [local go_sem ↓] Go.wp_at_zero Go.wp_at_succ

def pfx (xs : List It) : DR (List It) → DR (List It)
  | .ok ys q => .ok (xs ++ ys) q
  | .bad p e => .bad p e
theorem pfx_pfx (xs ys : List It) (r : DR (List It)) : pfx xs (pfx ys r) = pfx (xs ++ ys) r := by
  cases r <;> simp [pfx]

/-- what holds at the head of a round of list -/
structure ListRel (w wr : World) (gr : Nat) (A : Option Addr) (b : List UInt8) (cb p e d f : Nat) (V : Value) (E : List Ent) (p' f' : Nat) : Prop where
  blk : wr.heap[w.heap.size + 1]? = some (.cells #[.bool true, .slice none 0 0, V] 46 (0, 0))
  res : wr.heap[w.heap.size]? = some (.cells #[.bool false, .slice none 0 0, .slice none 0 0] 46 (0, 0))
  row : wr.ownsRow (w.heap.size + 2) 46 3 V E.length (E.flatMap Ent.cells)
  its : ∀ x ∈ E, RdI wr (fun k => w.heap.size + 2 ≤ k ∧ k < wr.heap.size ∧ V.ownBlock ≠ some k) x.v0 x.v1 x.v2 x.x x.sv
  str : OwnS wr (w.heap.size + 2) (E.flatMap (·.sv))
  rdr : Rdr wr gr A b cb p'
  le : p' ≤ e
  few : E.length ≤ p'
  dec : decL f b p e d = pfx (E.map (·.x)) (decL f' b p' e d)
  fuel : 2 * (e - p') + 2 ≤ f'
  less : f' ≤ f
  chg : Chg (· = gr) w wr
  size : w.heap.size + 2 ≤ wr.heap.size

def placeOf (w : World) (gr : Nat) : Nat := (intOf ((w.cell? ⟨gr, 1, none⟩).getD undef)).toNat
theorem placeOf_eq {w : World} {gr : Nat} {A : Option Addr} {b : List UInt8} {cb p : Nat} (h : Rdr w gr A b cb p) : placeOf w gr = p := by
  rw [placeOf, h.c1]; simp [intOf]

theorem decL_step {f : Nat} {b : List UInt8} {p e d : Nat} (h : p < e) : decL (f + 1) b p e d = match decI f b p e d with
    | .bad q r => .bad q r
    | .ok x q => pfx [x] (decL f b q e d) := by
  rw [decL, if_neg (by omega)]
  cases decI f b p e d with
  | bad q r => rfl
  | ok x q => cases h : decL f b q e d <;> simp [pfx, h]

theorem RdI.cells {w : World} {T : Nat → Prop} {v0 v1 v2 : Value} {x : It} {sv : List Value} (h : RdI w T v0 v1 v2 x sv) : ∀ u ∈ [v0, v1, v2], u.oneCell' = true := by
  obtain ⟨l, A1, n1, c1, A2, n2, c2, rfl, rfl, rfl⟩ := h.form
  intro u hu
  simp at hu
  rcases hu with rfl | rfl | rfl <;> rfl

theorem chg_cell {S : Nat → Prop} {w w' : World} {a : Addr} {u : Value} (hc : Chg S w w') (h : w.cell? a = some u) (hs : ¬ S a.block) : w'.cell? a = some u := by
  rw [World.cell?_of_block (hc.block a.block (World.block_lt_of_cell? w _ h) hs)]
  exact h

theorem hold_blk {w w' : World} {a : Addr} {u : Value} (hb : w'.heap[a.block]? = w.heap[a.block]?) (h : w.cell? a = some u ∧ w.frozen? a = false) : w'.cell? a = some u ∧ w'.frozen? a = false := by
  rw [World.cell?_of_block hb, World.frozen?_of_block hb]
  exact h
theorem hold_chg {S : Nat → Prop} {w w' : World} {a : Addr} {u : Value} (hc : Chg S w w') (h : w.cell? a = some u ∧ w.frozen? a = false) (hs : ¬ S a.block) : w'.cell? a = some u ∧ w'.frozen? a = false :=
  hold_blk (hc.block a.block (World.block_lt_of_cell? w _ h.1) hs) h
theorem hold_ap {w w' : World} {base : Nat} {e : TypeId} {size : Nat} {v v' : Value} {n : Nat} {xs : List Value} {a : Addr} {u : Value} (hp : Appended w base e size v n xs w' v') (hne : ∀ g, v.ownBlock = some g → g ≠ a.block) (h : w.cell? a = some u ∧ w.frozen? a = false) : w'.cell? a = some u ∧ w'.frozen? a = false :=
  hold_blk (hp.2.1.block a.block (World.block_lt_of_cell? w _ h.1) (fun e => hne _ e.symm rfl)) h
theorem chg_drew {S : Nat → Prop} {a w w' : World} (h : Chg S a w) (h' : Chg S w.drew w') : Chg S a w' :=
  h.trans ⟨h'.os, h'.tape, h'.output, h'.size, h'.block⟩

theorem OwnS.chg' {S : Nat → Prop} {w w' : World} {lo : Nat} {svs : List Value} (h : OwnS w lo svs) (hc : Chg S w w') (hs : ∀ v ∈ svs, ∀ k, v.ownBlock = some k → ¬ S k) : OwnS w' lo svs :=
  ⟨fun v hv => by
    obtain ⟨l, hl⟩ := h.1 v hv
    exact ⟨l, own_chg hl hc (hs v hv)⟩, h.2⟩

/-- one round of list -/
theorem list_round {w wr w2 w9 : World} {gr : Nat} {A : Option Addr} {b : List UInt8} {cb p e d f p' g q c9 g9 : Nat} {V v0 v1 v2 : Value} {E : List Ent} {x : It} {sv : List Value} (hgr : gr < w.heap.size) (hA : ∀ a, A = some a → a.block < w.heap.size)
    (hrel : ListRel w wr gr A b cb p e d f V E p' (g + 1)) (hq : p' < q ∧ q ≤ e) (hdec : decL f b p e d = pfx (E.map (·.x) ++ [x]) (decL g b q e d))
    (hos : OwnS w2 wr.heap.size sv) (hr2 : Rdr w2 gr A b cb q) (hch : Chg (· = gr) wr w2) (hrd : RdI w2 (Made wr w2) v0 v1 v2 x sv)
    (hap : Appended (w2.alloc (.cells #[v0, v1, v2] 46)) (w.heap.size + 2) 46 3 V (E.length + 1) (E.flatMap Ent.cells ++ [v0, v1, v2]) w9 (.slice (some ⟨g9, 0, none⟩) (E.length + 1) c9)) :
    ListRel w (w9.setCell ⟨w.heap.size + 1, 2, none⟩ (.slice (some ⟨g9, 0, none⟩) (E.length + 1) c9)) gr A b cb p e d f (.slice (some ⟨g9, 0, none⟩) (E.length + 1) c9) (E ++ [⟨v0, v1, v2, x, sv⟩]) q g := by
  have hsz := hrel.size
  have hV : ∀ k, V.ownBlock = some k → w.heap.size + 2 ≤ k ∧ k < wr.heap.size := fun k hk => hrel.row.lt k hk
  have hrow2 : w2.ownsRow (w.heap.size + 2) 46 3 V E.length (E.flatMap Ent.cells) := own_chg hrel.row hch (fun k hk e' => by have := hV k hk; omega)
  have hc2 : Chg (fun k => V.ownBlock = some k ∨ k = w.heap.size + 1) w2 (w9.setCell ⟨w.heap.size + 1, 2, none⟩ (.slice (some ⟨g9, 0, none⟩) (E.length + 1) c9)) :=
    (((Chg.refl _ w2).alloc _).grown hap.2.1 (fun k hk => .inl (.inl hk))).setCell (.inr rfl) _
  have hc : Chg (fun k => k = gr ∨ V.ownBlock = some k ∨ k = w.heap.size + 1) wr (w9.setCell ⟨w.heap.size + 1, 2, none⟩ (.slice (some ⟨g9, 0, none⟩) (E.length + 1) c9)) :=
    (hch.mono (fun k _ h => .inl h)).trans (hc2.mono (fun k _ h => .inr h))
  have hV9 : V.ownBlock = some g9 ∨ g9 = w2.heap.size + 1 := by
    rcases hap.2.2 with ⟨h, _⟩ | ⟨h, _⟩
    · exact .inl h.symm
    · right
      simpa [Value.ownBlock] using h
  have hsz2 := hch.size
  have hszW := hc2.size
  have hb9 : w.heap.size + 2 ≤ g9 := own_ge hap.1 g9 rfl
  refine ⟨?_, ?_, ?_, ?_, ?_, ?_, hq.2, ?_, ?_, ?_, ?_, ?_, ?_⟩
  · have h1 : w9.heap[w.heap.size + 1]? = some (.cells #[.bool true, .slice none 0 0, V] 46 (0, 0)) := by
      have hg := (((Chg.refl (fun k => V.ownBlock = some k) w2).alloc (.cells #[v0, v1, v2] 46)).grown hap.2.1 (fun k hk => .inl hk))
      rw [hg.block _ (by omega) (fun h => by have := hV _ h; omega), hch.block _ (by omega) (by omega)]
      exact hrel.blk
    exact heap_setCell_same w9 (w.heap.size + 1) 2 _ _ _ h1
  · rw [hc.block _ (by omega) (by rintro (h | h | h) <;> first | omega | (have := hV _ h; omega))]
    exact hrel.res
  · have := own_chg hap.1 ((Chg.refl (· = w.heap.size + 1) w9).setCell (p := ⟨w.heap.size + 1, 2, none⟩) rfl (.slice (some ⟨g9, 0, none⟩) (E.length + 1) c9)) (fun k hk e' => by
      have : g9 = k := by simpa [Value.ownBlock] using hk
      omega)
    simpa [Ent.cells] using this
  · intro en hen
    rcases List.mem_append.1 hen with hen | hen
    · refine ((hrel.its en hen).chg hc (fun k hS hT => ?_)).mono (fun k hT => ⟨hT.1, by omega, fun h => ?_⟩)
      · rcases hS with h | h | h
        · omega
        · exact hT.2.2 h
        · omega
      · have hk : g9 = k := by simpa [Value.ownBlock] using h
        rcases hV9 with h9 | h9
        · exact hT.2.2 (hk ▸ h9)
        · omega
    · simp only [List.mem_singleton] at hen
      subst hen
      refine (hrd.chg hc2 (fun k hS hT => ?_)).mono (fun k hT => ⟨?_, ?_, fun h => ?_⟩)
      · unfold Made at hT
        rcases hS with h | h
        · have := hV k h; omega
        · omega
      · unfold Made at hT; omega
      · unfold Made at hT; omega
      · have hk : g9 = k := by simpa [Value.ownBlock] using h
        unfold Made at hT
        rcases hV9 with h9 | h9
        · have := hV _ h9; omega
        · omega
  · have hw1 : OwnS (w9.setCell ⟨w.heap.size + 1, 2, none⟩ (.slice (some ⟨g9, 0, none⟩) (E.length + 1) c9)) (w.heap.size + 2) (E.flatMap (·.sv)) := hrel.str.chg' hc (fun v hv k hk hS => by
      obtain ⟨l, hl⟩ := hrel.str.1 v hv
      have hge := own_ge hl k hk
      rcases hS with h | h | h
      · omega
      · exact own_type_ne hl hrel.row (by decide) k hk h
      · omega)
    have hw2 : OwnS (w9.setCell ⟨w.heap.size + 1, 2, none⟩ (.slice (some ⟨g9, 0, none⟩) (E.length + 1) c9)) wr.heap.size sv := hos.chg' hc2 (fun v hv k hk hS => by
      obtain ⟨l, hl⟩ := hos.1 v hv
      have hge := own_ge hl k hk
      rcases hS with h | h
      · exact own_type_ne hl hrow2 (by decide) k hk h
      · omega)
    have := OwnS.append hrel.str hos hw1 (hw2.mono (by omega)) (Nat.le_refl _)
    simpa using this
  · exact hr2.chg hc2 (by rintro (h | h) <;> first | omega | (have := hV _ h; omega)) (fun a ha => by
      have := hA a ha
      rintro (h | h) <;> first | omega | (have := hV _ h; omega))
  · have := hrel.few
    simp
    omega
  · rw [hdec]; simp
  · have := hrel.fuel; omega
  · have := hrel.less; omega
  · exact ⟨hc.os.trans hrel.chg.os, hc.tape.trans hrel.chg.tape, hc.output.trans hrel.chg.output, Nat.le_trans hrel.chg.size hc.size, fun k hk hs => (hc.block k (by omega) (by rintro (h | h | h) <;> first | omega | (have := hV _ h; omega))).trans (hrel.chg.block k hk hs)⟩
  · omega

/-- what list leaves -/
theorem list_out {w wr : World} {gr : Nat} {A : Option Addr} {b : List UInt8} {cb p e d f p' f' c : Nat} {AV : Option Addr} {E : List Ent} (hgr : gr < w.heap.size) (hA : ∀ a, A = some a → 0 < b.length → a.block < w.heap.size)
    (hrel : ListRel w wr gr A b cb p e d f (.slice AV E.length c) E p' f') {W : World} (hW : Chg (· = w.heap.size) wr W) :
    ∃ u0 u1 u2 sv, Ending.returned (.agg #[.bool true, .slice none 0 0, .slice AV E.length c]) = .returned (.agg #[u0, u1, u2]) ∧ RdI W (Made w W) u0 u1 u2 (.mk true [] (E.map (·.x))) sv ∧ OwnS W w.heap.size sv ∧ Rdr W gr A b cb p' ∧ Chg (· = gr) w W := by
  have hsz := hrel.size
  have hszW := hW.size
  have hrow := own_chg hrel.row hW (fun k hk e' => by have := own_ge hrel.row k hk; omega)
  have hblk : ∀ a, AV = some a → Made w W a.block := fun a ha => by
    subst ha
    have := hrel.row.lt a.block rfl
    unfold Made; omega
  have hcap : E.length ≤ c ∧ c ≤ maxLen ∧ (AV = none → c = 0) := by
    rcases hrel.row.2 with ⟨h, h0⟩ | ⟨g, cap, cur, h, hb, hg, hn, hm, _⟩
    · injection h with h1 h2 h3
      exact ⟨by omega, by simp only [maxLen]; omega, fun _ => h3⟩
    · injection h with h1 h2 h3
      subst h3
      exact ⟨hn, hm, fun h => by rw [h1] at h; cases h⟩
  obtain ⟨A', c', h', hl', hs'⟩ := Src.own hrow
  injection h' with h1 h2 h3
  subst h1 h3
  have hnil : OwnB W w.heap.size (.slice none 0 0) [] := OwnB.nil _ _
  refine ⟨_, _, _, (.slice none 0 0) :: E.flatMap (·.sv), rfl, RdI.mk true _ [] _ _ E hnil.sb (fun a n c h => by cases h) hcap.1 hcap.2.1 hcap.2.2 hblk ⟨_, _, rfl, hl', hs'⟩ (fun en hen => ?_), ?_, ?_, ?_⟩
  · exact ((hrel.its en hen).chg hW (fun k hS hT => by omega)).mono (fun k hT => by unfold Made; omega)
  · exact OwnS.append (a := [.slice none 0 0]) (w1 := w) (OwnS.one (OwnB.nil w w.heap.size)) hrel.str (OwnS.one hnil) ((hrel.str.chg hW (fun k hk => by omega)).mono (by omega)) (by omega)
  · refine ⟨(hW.block gr hrel.rdr.lt (by omega)).trans hrel.rdr.blk, ?_, hrel.rdr.le, hrel.rdr.mx⟩
    intro k hk
    exact (hrel.rdr.rd.chg hW (fun a ha h => by have := hA a ha (by omega); omega)) k hk
  · exact ⟨hW.os.trans hrel.chg.os, hW.tape.trans hrel.chg.tape, hW.output.trans hrel.chg.output, Nat.le_trans hrel.chg.size hW.size, fun k hk hs => (hW.block k (by omega) (by omega)).trans (hrel.chg.block k hk hs)⟩

set_option maxRecDepth 100000 in
set_option maxHeartbeats 2000000 in
theorem list_step (gr : Nat) (A : Option Addr) (b : List UInt8) (cb f : Nat) (hb : b.length ≤ 1099511627776) (hitem : ∀ g, g < f → ItemSays gr A b cb g) : ItemsSay gr A b cb f := by
  intro w p e d hr hp he hd hf
  have HI := Lib.hid hitem
  have HR := Lib.hid hr
  have hH := hr.lt
  have hA0 : 0 < b.length → ∀ a, A = some a → a.block < w.heap.size := fun hl a ha => by
    subst ha
    obtain ⟨bl, off, e', hc⟩ := hr.rd 0 (by omega)
    injection e' with e'
    rw [e']
    exact World.block_lt_of_cell? w _ hc
  have HA0 := Lib.hid hA0
  clear hitem hA0
  go_enter Try.func78, Try.ntmps78
  go_wp2_with fail
  go_loopw [] (fun wr => ∃ V E p' f', ListRel w wr gr A b cb p e d f V E p' f') (fun wr => e - placeOf wr gr)
  case atStart =>
    refine ⟨.slice none 0 0, [], p, f, ?_⟩
    have hal : Below w.heap.size w ((w.alloc (.cells #[.bool false, .slice none 0 0, .slice none 0 0] 46)).alloc (.cells #[.bool true, .slice none 0 0, .slice none 0 0] 46)) := ((Below.refl _ _).alloc (Nat.le_refl _) _).alloc (by simp) _
    exact ⟨heap_alloc2_new _ _ _, heap_alloc2_old _ _ _, own_nil _ _ _ _, fun x hx => (by cases hx), OwnS.nil _ _, hr.keep hal, hp, Nat.zero_le _, by simp [pfx]; cases decL f b p e d <;> rfl, hf, Nat.le_refl _, Below.chg _ hal, by simp⟩
  case round =>
    obtain ⟨V, E, p', f', hrel⟩ := hrel
    have c1 := hrel.rdr.c1
    have hle := hrel.le
    by_cases h1 : p' < e
    · obtain ⟨g, rfl⟩ : ∃ g, f' = g + 1 := ⟨f' - 1, by have := hrel.fuel; omega⟩
      have h1' : (p' : Int) < (e : Int) := by omega
      have HRel := Lib.hid hrel
      have hcV : wr.cell? ⟨w.heap.size + 1, 2, none⟩ = some V := by rw [cell_of_row wr _ 2 _ _ _ hrel.blk]; rfl
      have hfV : wr.frozen? ⟨w.heap.size + 1, 2, none⟩ = false := frozen_of_row _ _ _ _ _ hrel.blk
      have hsz := hrel.size
      have HC := Lib.hid (HI.out g (by have := hrel.less; omega) wr.drew p' e d (hrel.rdr.drewN 1) hle he hd (by have := hrel.fuel; omega))
      have hdec := decL_step (f := g) (b := b) (d := d) h1
      have HD := Lib.hid hdec
      clear hrel hdec
      cases hI : decI g b p' e d with
      | bad q r =>
        have hfin : Hid (decL f b p e d = .bad q r) := by
          show _ = _
          rw [HRel.out.dec, HD.out, hI]; rfl
        rw [hI] at HC
        clear hI
        go_wp2_with fail
        go_region_with (first | (go_at_call 74; refine (HC.out.mono ?_); rintro en w2 ⟨rfl, hch⟩; go_wp2; refine (have _nil : False → wpAny Try.prog Region.Mode.text #[] (fun _ _ _ => True) 0 #[] ⟨#[], []⟩ w := fun hF => ?_; ⟨rfl, by rw [hfin.out]; exact ⟨rfl, chg_drew HRel.out.chg hch⟩⟩)))
        all_goals trivial
      | ok x q =>
        have hq := (dec_to g).1 b p' e d x q hle hI
        have hdec2 : Hid (decL f b p e d = pfx (E.map (·.x) ++ [x]) (decL g b q e d)) := by
          show _ = _
          rw [HRel.out.dec, HD.out, hI]
          exact pfx_pfx _ _ _
        rw [hI] at HC
        have hVH : ∀ k, V.ownBlock = some k → w.heap.size + 2 ≤ k := own_ge HRel.out.row
        have hnV : (E.length : Int) ≤ 1099511627776 := by have := HRel.out.few; omega
        have hnV2 : E.length ≤ 1099511627776 := by omega
        have HVH := Lib.hid hVH
        have HHA := Lib.hid (HA0.out (by omega))
        clear hI hVH
        go_wp2_with fail
        go_region_law (first
            | (refine step_ap itemsT (by rfl) (by rfl) (by rfl) (own_below HRow.out ((Below.refl _ _).alloc (Nat.le_refl _) _)) (by rfl) (Src.block (m := 1) (heap_alloc_new _ _) (by rfl)) hrd.cells (by simp only [maxLen]; omega) (by omega) (by simp; omega) ?_; intro v9 w9 hap; obtain ⟨g9, c9, rfl, hc9, hm9, hb9, hlt9⟩ := own_form hap.1 (by omega); obtain ⟨k9, z9⟩ := hold_ap hap (fun k hk => by have := HVH.out k hk; simp only; omega) (hold_chg ((Chg.refl (· = gr) w2).alloc _) HK.out (by simp only; omega)))
            | (go_simp; go_at_call 74; refine (HC.out.mono ?_); rintro en w2 ⟨v0, v1, v2, sv, rfl, hrd, hos, hr2, hch⟩; obtain ⟨l', A1, n1, cc1, A2, n2, cc2, rfl, rfl, rfl⟩ := hrd.form; have HRow := Lib.hid (own_chg HRel.out.row (chg_drew (Chg.refl (· = gr) wr) hch) (fun k hk e' => by have := HVH.out k hk; omega)); have HK := Lib.hid (hold_chg (chg_drew (Chg.refl (· = gr) wr) hch) ⟨hcV, hfV⟩ (by simp only; omega)); have hcV2 := HK.out.1; have hcV3 : ∀ o, (w2.alloc o).cell? ⟨w.heap.size + 1, 2, none⟩ = some V := (fun o => (hold_chg ((Chg.refl (· = gr) w2).alloc o) HK.out (by simp only; omega)).1); have hb2 : w.heap.size + 2 ≤ w2.heap.size := Nat.le_trans hsz hch.size))
        all_goals
          have hL := list_round hH HHA.out HRel.out hq hdec2.out hos hr2 (chg_drew (Chg.refl _ wr) hch) hrd hap
          exact ⟨⟨_, _, _, _, _, _, _, _, _, _, _, _, _, _, _, ⟨_, _, _, _, hL⟩, rfl⟩, by rw [placeOf_eq hL.rdr, placeOf_eq HRel.out.rdr]; omega⟩
    · have he' : p' = e := by omega
      subst he'
      obtain ⟨g, rfl⟩ : ∃ g, f' = g + 1 := ⟨f' - 1, by have := hrel.fuel; omega⟩
      obtain ⟨AV, cV, rfl, -⟩ := Src.own hrel.row
      have hfin : Hid (decL f b p p' d = .ok (E.map (·.x)) p') := by
        show _ = _
        rw [hrel.dec, decL, if_pos (Nat.le_refl _)]
        simp [pfx]
      have k0 := cell_of_row wr (w.heap.size + 1) 0 _ _ _ hrel.blk
      have k1 := cell_of_row wr (w.heap.size + 1) 1 _ _ _ hrel.blk
      have k2 := cell_of_row wr (w.heap.size + 1) 2 _ _ _ hrel.blk
      have r0 := cell_of_row wr w.heap.size 0 _ _ _ hrel.res
      have r1 := cell_of_row wr w.heap.size 1 _ _ _ hrel.res
      have r2 := cell_of_row wr w.heap.size 2 _ _ _ hrel.res
      have z0 := frozen_of_row wr w.heap.size 0 _ _ hrel.res
      have z1 := frozen_of_row wr w.heap.size 1 _ _ hrel.res
      have z2 := frozen_of_row wr w.heap.size 2 _ _ hrel.res
      simp at k0 k1 k2 r0 r1 r2
      have HRel := Lib.hid hrel
      clear hrel h1 hle
      go_wp2
      refine bodyPost_ret (v := .agg #[.bool true, .slice none 0 0, .slice AV E.length cV]) (by simp [results, Try.results78, go_sem, r0, r1, r2]) rfl ?_
      rw [hfin.out]
      exact list_out hH (fun a ha h0 => HA0.out h0 a ha) HRel.out (set3 _ _ _ _ _)

/-- both readers -/
theorem items_say (gr : Nat) (A : Option Addr) (b : List UInt8) (cb : Nat) (hb : b.length ≤ 1099511627776) (f : Nat) : ItemsSay gr A b cb f ∧ ItemSays gr A b cb f := by
  induction f using Nat.strongRecOn with
  | _ f ih =>
    have h1 : ItemsSay gr A b cb f := list_step gr A b cb f hb (fun g hg => (ih g hg).2)
    refine ⟨h1, ?_⟩
    cases f with
    | zero => intro w p e d _ _ _ _ h; omega
    | succ n => exact item_step gr A b cb n hb (ih n (by omega)).1
end Go.Proofs.Ytdhkhdeblkbojaa
