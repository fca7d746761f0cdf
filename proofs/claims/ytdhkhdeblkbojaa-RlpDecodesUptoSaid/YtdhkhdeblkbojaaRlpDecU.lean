/- Decode and Split of both sides in one form each, whether there is a fault or not. -/
import Derived.Test.YtdhkhdeblkbojaaRefDec2
import Derived.Test.YtdhkhdeblkbojaaRlpSmudged
set_option linter.unusedSimpArgs false
namespace Go.Proofs.Ytdhkhdeblkbojaa
open Go.RowKit

def decT (b : List UInt8) : It := match decR b with | .ok x _ => x | .bad _ _ => .mk false [] []
def decP (b : List UInt8) : Nat := match decR b with | .ok _ _ => 0 | .bad p _ => p
def decE (b : List UInt8) : Int := match decR b with | .ok _ _ => 0 | .bad _ c => c
def splF (b : List UInt8) : List UInt8 := match readR b with | .ok _ q => b.take q | .bad _ _ => []
def splR (b : List UInt8) : List UInt8 := match readR b with | .ok _ q => b.drop q | .bad _ _ => []
def splE (b : List UInt8) : Int := match readR b with | .ok _ _ => 0 | .bad _ c => c
theorem splF_len (b : List UInt8) : (splF b).length ≤ b.length := by unfold splF; split <;> (simp only [List.length_take, List.length_nil]; omega)
theorem splR_len (b : List UInt8) : (splR b).length ≤ b.length := by unfold splR; split <;> simp
theorem decT_wt (b : List UInt8) : wtI (decT b) ≤ 17825792 := by
  unfold decT
  cases h : decR b with
  | ok x q => exact (wt_dec h).1
  | bad p c => simp [wtI, wtL]

def UPost (w : World) (b : List UInt8) (e : Ending) (w' : World) : Prop :=
  ∃ v0 v1 v2 sv, e = .returned (.tuple #[.agg #[v0, v1, v2], .int .i64 (decP b : Int), .int .i64 (decE b)]) ∧ RdI w' (Made w w') v0 v1 v2 (decT b) sv ∧ OwnS w' w.heap.size sv ∧ Below w.heap.size w w'
theorem u_of {w : World} {b : List UInt8} {e : Ending} {w' : World} (h : DecPost w (decR b) e w') : UPost w b e w' := by
  unfold UPost decT decP decE
  cases hD : decR b with
  | ok x q =>
    rw [hD] at h
    exact h
  | bad p c =>
    rw [hD] at h
    obtain ⟨rfl, hb⟩ := h
    exact ⟨_, _, _, [.slice none 0 0], rfl, RdI.leaf false (SB.nil _) (fun _ _ _ h => by cases h), OwnS.one (OwnB.nil _ _), hb⟩
theorem decode_u {w : World} {vb : Value} {b : List UInt8} (hb : SB w vb b) (hl : b.length ≤ 1099511627776) : Calls Try.prog 27 #[vb] w (UPost w b) :=
  (decode_any vb b w hb hl).mono fun _ _ h => u_of h
theorem refdec_u {w : World} {vb : Value} {b : List UInt8} (hb : SB w vb b) (hl : b.length ≤ 1099511627776) : Calls Try.prog 30 #[vb] w (UPost w b) :=
  (refdec_any vb b w hb hl).mono fun _ _ h => u_of h

def SPost (w : World) (b : List UInt8) (e : Ending) (w' : World) : Prop :=
  ∃ A1 c1 A2 c2, e = .returned (.tuple #[.slice A1 (splF b).length c1, .slice A2 (splR b).length c2, .int .i64 (splE b)]) ∧ OwnB w' w.heap.size (.slice A1 (splF b).length c1) (splF b) ∧ OwnB w' w.heap.size (.slice A2 (splR b).length c2) (splR b) ∧ Dist [.slice A1 (splF b).length c1, .slice A2 (splR b).length c2] ∧ Below w.heap.size w w'
theorem s_of {w : World} {b : List UInt8} {e : Ending} {w' : World} (h : SplitPost w b (readR b) e w') : SPost w b e w' := by
  unfold SPost
  have e1 : splF b = match readR b with | .ok _ q => b.take q | .bad _ _ => [] := rfl
  have e2 : splR b = match readR b with | .ok _ q => b.drop q | .bad _ _ => [] := rfl
  have e3 : splE b = match readR b with | .ok _ _ => 0 | .bad _ c => c := rfl
  cases hD : readR b with
  | ok x q =>
    rw [hD] at h e1 e2 e3
    rw [e1, e2, e3]
    obtain ⟨s, t, rfl, hs, ht, hd, hb⟩ := h
    obtain ⟨A1, c1, rfl, -⟩ := hs.form
    obtain ⟨A2, c2, rfl, -⟩ := ht.form
    exact ⟨_, _, _, _, rfl, hs, ht, hd.2, hb⟩
  | bad p c =>
    rw [hD] at h e1 e2 e3
    rw [e1, e2, e3]
    obtain ⟨rfl, hb⟩ := h
    exact ⟨none, 0, none, 0, rfl, OwnB.nil _ _, OwnB.nil _ _, dist2 (fun g h => by cases h), hb⟩
theorem split_u {w : World} {vb : Value} {b : List UInt8} (hb : SB w vb b) (hl : b.length ≤ 1099511627776) : Calls Try.prog 32 #[vb] w (SPost w b) :=
  (split_any vb b w hb hl).mono fun _ _ h => s_of h
theorem refsplit_u {w : World} {vb : Value} {b : List UInt8} (hb : SB w vb b) (hl : b.length ≤ 1099511627776) : Calls Try.prog 31 #[vb] w (SPost w b) :=
  (refsplit_any vb b w hb hl).mono fun _ _ h => s_of h

/-- an item's strings are no longer than it weighs -/
theorem sv_len {w : World} {T : Nat → Prop} {v0 v1 v2 : Value} {x : It} {sv : List Value} (h : RdI w T v0 v1 v2 x sv) : ∀ v ∈ sv, ∃ A n c, v = .slice A n c ∧ n ≤ wtI x := by
  induction h with
  | mk l v1 bs A c E h1 h1' h2 h3 h4 h4' h5 h6 ih =>
    intro v hv
    rcases List.mem_cons.1 hv with rfl | hv
    · obtain ⟨A1, c1, rfl, -⟩ := h1
      exact ⟨_, _, _, rfl, by rw [wtI]; omega⟩
    · obtain ⟨e, he, hve⟩ := List.mem_flatMap.1 hv
      obtain ⟨A1, n1, c1, rfl, hn⟩ := ih e he v hve
      obtain ⟨i, hi, rfl⟩ := List.mem_iff_getElem.1 he
      have := wtL_mem (E := E) hi
      exact ⟨_, _, _, rfl, by rw [wtI]; omega⟩
theorem ownB_len {w : World} {base : Nat} {A : Option Addr} {n c : Nat} {l : List UInt8} (h : OwnB w base (.slice A n c) l) : l.length = n := by
  obtain ⟨A', c', e, -⟩ := h.form
  injection e with _ e _
  exact e.symm
theorem ownB_cap {w : World} {base : Nat} {A : Option Addr} {n c : Nat} {l : List UInt8} (h : OwnB w base (.slice A n c) l) : n ≤ c ∧ c ≤ 9223372036854775807 := by
  obtain ⟨A', c', e, _, h1, h2, _⟩ := h.form
  injection e with e1 e2 e3
  unfold maxLen at h2
  omega
theorem sb_prefix {w : World} {A : Option Addr} {n k c : Nat} {l : List UInt8} (h : SB w (.slice A n c) l) (hk : k ≤ n) : SB w (.slice A k c) (l.take k) := by
  obtain ⟨A', c', e, hr, h1, h2, h3⟩ := h
  injection e with e1 e2 e3
  subst e1 e2 e3
  have ht : (l.take k).length = k := by simp; omega
  exact ⟨_, _, by rw [ht], hr.take k, by rw [ht]; omega, h2, h3⟩
theorem SB.keepP {P : Nat → Prop} {w w' : World} {v : Value} {l : List UInt8} (h : SB w v l) (hf : ∀ a n c, v = .slice (some a) n c → P a.block) (hk : ∀ b o u, P b → w.cell? ⟨b, o, none⟩ = some u → w'.cell? ⟨b, o, none⟩ = some u) : SB w' v l := by
  obtain ⟨A, c, rfl, hr, h1⟩ := h
  refine ⟨A, c, rfl, fun k hl => ?_, h1⟩
  obtain ⟨b, off, e, hc⟩ := hr k hl
  exact ⟨b, off, e, hk _ _ _ (hf ⟨b, off, none⟩ _ _ (by rw [e])) hc⟩
theorem sb_blk {W : World} {g n : Nat} {cs : Array Value} {l : List UInt8} {e : TypeId} {fr : Nat × Nat} (h : W.heap[g]? = some (.cells cs e fr)) (hcs : cs.toList = l.map bv) (hn : l.length = n) (hm : n ≤ 1099511627776) : SB W (.slice (some ⟨g, 0, none⟩) n n) l := by
  subst hn
  refine ⟨_, _, rfl, fun k hk => ⟨_, 0, rfl, ?_⟩, Nat.le_refl _, by unfold maxLen; omega, fun e => by cases e⟩
  rw [cell_of_row _ g (0 + k) _ _ _ h, Nat.zero_add, ← Array.getElem?_toList, hcs, List.getElem?_map, List.getElem?_eq_getElem hk]
  rfl
/-- strings that a growth brought -/
structure OwnSG (n : Nat) (D : Dl) (sv : List Value) : Prop where
  own : ∀ W, At n D W → OwnS W n sv
  rg : ∀ v ∈ sv, ∀ g, v.ownBlock = some g → n ≤ g ∧ g < n + D.k
  dist : Dist sv
theorem ownSG {w : World} {D : Dl} {sv : List Value} (h : OwnS (w.gr D) w.heap.size sv) : OwnSG w.heap.size D sv :=
  ⟨ownS_at h, fun v hv g hg => by have := h.lt v hv g hg; rw [size_gr] at this; exact this, h.2⟩
theorem inS_mem {vs : List Value} {k : Nat} (h : InS vs k) : ∃ v ∈ vs, v.ownBlock = some k := by
  obtain ⟨i, hi, hb⟩ := h
  exact ⟨vs[i], List.getElem_mem _, hb⟩
theorem cells_len (E : List Ent) : (E.flatMap Ent.cells).length = E.length * 3 := by
  induction E with
  | nil => rfl
  | cons e r ih => rw [List.flatMap_cons, List.length_append, ih]; simp [Ent.cells]; omega
theorem smudged_g {cw Wl : World} {g n base : Nat} {E : List Ent} {cs : Array Value} {vs : List Value} (hWl : Wl = cw.alloc (.cells cs 46)) (hcs : cs.toList = E.flatMap Ent.cells) (hg : cw.heap.size = g) (hn : E.length = n) (hvs : vs = E.flatMap (·.sv)) (hbase : base ≤ cw.heap.size)
    (h6 : ∀ e ∈ E, RdI cw (fun k => k < cw.heap.size) e.v0 e.v1 e.v2 e.x e.sv) (hO : ∀ v ∈ vs, ∃ l, OwnB cw base v l ∧ l.length ≤ 1099511627776) (hD : Dist vs) (hwt : wtL (E.map (·.x)) ≤ 1099511627776) :
    Calls Try.prog 33 #[.slice (some ⟨g, 0, none⟩) n n] Wl fun e w' => e = .returned (.bool true) ∧ Chg (InS vs) Wl w' ∧ Below base cw w' := by
  subst hWl hg hn
  have hal : Below cw.heap.size cw (cw.alloc (.cells cs 46)) := (Below.refl _ _).alloc (Nat.le_refl _) _
  have hF : ∀ i (hi : i < vs.length), ∃ l, OwnB cw base vs[i] l ∧ l.length ≤ 1099511627776 := fun i hi => hO _ (List.getElem_mem _)
  have hel : E.length ≤ 1099511627776 := by have := len_wt (E.map (·.x)); rw [List.length_map] at this; omega
  have hfl := cells_len E
  refine (smudged_any (T := fun k => k < cw.heap.size + 1) (f := fun i => if hi : i < vs.length then (hF i hi).choose else []) (base := base) hvs (fun a ha => by cases ha; simp) ?_ (fun e he => ((h6 e he).kept hal).mono (fun k hk => by omega)) (fun k hk => by simp; exact hk) (by simp only [maxLen]; omega) (fun i hi => ?_) hD (by simp; omega) hwt (fun i hi => ?_)).mono fun e w' ⟨he, hc⟩ => ⟨he, hc, ?_⟩
  · refine ⟨_, _, rfl, by omega, fun j u hj => ⟨_, rfl, ?_⟩⟩
    rw [addr_add, Nat.zero_add, cell_of_row _ cw.heap.size j cs 46 _ (heap_alloc_new _ _), ← Array.getElem?_toList, hcs]
    exact hj
  · dsimp only
    rw [dif_pos hi]
    exact own_below (hF i hi).choose_spec.1 hal
  · rw [dif_pos hi]
    exact (hF i hi).choose_spec.2
  · have hc' : Below base (cw.alloc (.cells cs 46)) w' := hc.bel (fun k hk => by
      obtain ⟨v, hv, hb⟩ := inS_mem hk
      obtain ⟨l, hl, _⟩ := hO v hv
      exact (hl.lt _ hb).1) (by simp; omega)
    exact (hal.mono hbase).trans hc'
end Go.Proofs.Ytdhkhdeblkbojaa
