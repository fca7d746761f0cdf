/- The device's memory; New. -/
import Derived.Test.YtcbglojjbgenlaaMedB
import Derived.Deep.WholeRow
import Derived.Deep.MidRow
namespace Go.Proofs.Ytcbglojjbgenlaa
open Go.RowKit Go.MapL
set_option linter.unusedSimpArgs false
set_option linter.unusedVariables false
attribute [local go_sem] size_gr cell_gr frozen_gr setCell_gr gr_drew gr_drewN lt_k lt_kc le_k le_kc sub_kc nil29 nil28 nil49
attribute [local go_sem ↓] Go.wp_at_zero Go.wp_at_succ

/-- What stands in a device's struct. -/
structure Fd where
  slots : Int
  room : Int
  bm : Value
  log : Value
  cnt : Int
  tag : H32
  down : Bool
  cho : Value
  acc : Value
  vers : Value
  past : Value
  nb : Value
  nl : Value
def devC (f : Fd) : List Value := [.int .i64 f.slots, .int .i64 f.room, f.bm, f.log, .int .i64 f.cnt] ++ (f.tag.1.map bv ++ [.bool f.down, f.cho, f.acc, f.vers, f.past, f.nb, f.nl])
def DevAt (w : World) (D : Nat) (f : Fd) : Prop := w.heap[D]? = some (.cells (devC f).toArray 84 (0, 0))
theorem devC_len (f : Fd) : (devC f).length = 44 := by simp [devC, f.tag.2]
def zero32 : H32 := ⟨List.replicate 32 0, by simp⟩

abbrev Bs := List UInt8
/-- block k is a row of bytes -/
def isBytes (w : World) (k : Nat) : Prop := ∃ cs fr, w.heap[k]? = some (.cells cs 5 fr)
def vBlock : Value → Option Nat | .slice (some a) _ _ => some a.block | _ => none
/-- bytes in a row of bytes of F -/
def DB (w : World) (F : Nat → Prop) (v : Value) (l : Bs) : Prop := SB w v l ∧ ∀ k, vBlock v = some k → F k ∧ isBytes w k
def OptR {α β : Type} (R : α → β → Prop) : Option α → Option β → Prop
  | none, none => True
  | some a, some b => R a b
  | _, _ => False
def MapB (w : World) (F : Nat → Prop) (B : Nat) (bl : H32 → Option Bs) (n : Nat) : Prop := ∃ mv, MapIs HC w B mv n ∧ ∀ q, OptR (DB w F) (mv q) (bl q)
def OldV (w : World) (F : Nat → Prop) (v : Value) (x : Option Bs) : Prop := ∃ s, v = .agg #[s, .bool x.isSome] ∧ DB w F s (x.getD [])
def MapO (w : World) (F : Nat → Prop) (B : Nat) (o : H32 → Option (Option Bs)) (n : Nat) : Prop := ∃ mv, MapIs HC w B mv n ∧ ∀ q, OptR (OldV w F) (mv q) (o q)
/-- a row of slices of bytes -/
def VerV (w : World) (F : Nat → Prop) (v : Value) (ls : List Bs) : Prop :=
  ∃ vals, w.ownsRow 0 29 1 v ls.length vals ∧ (∀ i (h : i < ls.length) (h' : i < vals.length), DB w F vals[i] ls[i]) ∧ ∀ k, v.ownBlock = some k → F k
def MapV (w : World) (F : Nat → Prop) (V : Nat) (vs : H32 → List Bs) : Prop :=
  ∃ mv n, MapIs HC w V mv n ∧ (∀ q, (mv q = none ∧ vs q = []) ∨ ∃ v, mv q = some v ∧ VerV w F v (vs q)) ∧
    ∀ q q' v v' k, q ≠ q' → mv q = some v → mv q' = some v' → v.ownBlock = some k → v'.ownBlock ≠ some k
abbrev Ac := Int × Int × Bool
def acC (c : Ac) : List Value := [.int .i64 c.1, .int .i64 c.2.1, .bool c.2.2]
def AccAt (w : World) (F : Nat → Prop) (v : Value) (l : List Ac) : Prop := w.ownsRow 0 95 3 v l.length (l.flatMap acC) ∧ ∀ k, v.ownBlock = some k → F k
/-- a row of choices -/
def ChoAt (w : World) (F : Nat → Prop) (v : Value) (l : List Ch) : Prop := SC w 3 v l.length (l.flatMap chC) ∧ ∀ k, vBlock v = some k → F k ∧ ∃ cs fr, w.heap[k]? = some (.cells cs 27 fr)
/-- a change: what stood there -/
structure Pc where
  olds : H32 → Option (Option Bs)
  n : Nat
  log : Bs
def PcAt (w : World) (F : Nat → Prop) (X : Nat → Prop) (a b : Value) (p : Pc) : Prop := ∃ N, a = .map (some N) ∧ F N ∧ ¬ X N ∧ MapO w F N p.olds p.n ∧ DB w F b p.log
def PastAt (w : World) (F : Nat → Prop) (X : Nat → Prop) (v : Value) (l : List Pc) : Prop :=
  ∃ vals : List (Value × Value), vals.length = l.length ∧ w.ownsRow 0 82 2 v l.length (vals.flatMap fun x => [x.1, x.2]) ∧ (∀ i (h : i < l.length) (h' : i < vals.length), PcAt w F X vals[i].1 vals[i].2 l[i]) ∧ ∀ k, v.ownBlock = some k → F k
/-- What a device is. -/
structure Dv where
  slots : Int
  room : Int
  cnt : Int
  tag : H32
  blobs : H32 → Option Bs
  n : Nat
  log : Bs
  down : Bool
  cho : List Ch
  acc : List Ac
  vers : H32 → List Bs
  past : List Pc
/-- Where it lies. -/
structure Mm where
  B : Nat
  V : Nat
  lv : Value
  cv : Value
  av : Value
  pv : Value
  nb : Value
  nl : Value
def fdOf (d : Dv) (m : Mm) : Fd := ⟨d.slots, d.room, .map (some m.B), m.lv, d.cnt, d.tag, d.down, m.cv, m.av, .map (some m.V), m.pv, m.nb, m.nl⟩
structure Core (w : World) (D : Nat) (F : Nat → Prop) (X : Nat → Prop) (d : Dv) (m : Mm) : Prop where
  dev : DevAt w D (fdOf d m)
  fD : F D
  fB : F m.B
  fV : F m.V
  xB : X m.B
  xV : X m.V
  bv : m.B ≠ m.V
  blobs : MapB w F m.B d.blobs d.n
  vers : MapV w F m.V d.vers
  log : DB w F m.lv d.log
  cho : ChoAt w F m.cv d.cho
  acc : AccAt w F m.av d.acc
  past : PastAt w F X m.pv d.past
def Inv (w : World) (D : Nat) (F : Nat → Prop) (d : Dv) : Prop := ∃ m, Core w D F (fun k => k = m.B ∨ k = m.V) d m
def dv0 (s r : Int) (cs : List Ch) : Dv := ⟨s, r, 0, zero32, fun _ => none, 0, [], false, cs, [], fun _ => [], []⟩

theorem mkmap (t : TypeId) (w : World) : (Instr.makeMap t none).run Try.prog w = .ok (.map (some w.heap.size)) (w.alloc (.map #[] 0)) := rfl
attribute [local go_sem] mkmap

theorem new_slots (s r : Int) (v : Value) (w : World) (h : s < 1 ∨ 4096 < s ∨ r < 0 ∨ 1048576 < r) :
    Calls Try.prog 6 #[.int .i64 s, .int .i64 r, v] w fun e w' => e = .returned (.tuple #[.pointer none, .int .i64 80]) ∧ w' = w := by
  by_cases t0 : s < 1
  · clear h
    go_enter Try.func6, Try.ntmps6
    go_wp2
    go_ret2
    exact ⟨rfl, rfl⟩
  · by_cases t1 : 4096 < s
    · clear h
      go_enter Try.func6, Try.ntmps6
      go_wp2
      go_ret2
      exact ⟨rfl, rfl⟩
    · by_cases t2 : r < 0
      · clear h
        go_enter Try.func6, Try.ntmps6
        go_wp2
        go_ret2
        exact ⟨rfl, rfl⟩
      · have t3 : 1048576 < r := by omega
        clear h
        go_enter Try.func6, Try.ntmps6
        go_wp2
        go_ret2
        exact ⟨rfl, rfl⟩

theorem new_choices (s r : Int) (v : Value) (cs : List Ch) (w : World) (h : 1 ≤ s ∧ s ≤ 4096 ∧ 0 ≤ r ∧ r ≤ 1048576) (hc : SC w 3 v cs.length (cs.flatMap chC)) (hn : cs.length ≤ 1099511627776) (hb : mayB cs = false) :
    Calls Try.prog 6 #[.int .i64 s, .int .i64 r, v] w fun e w' => e = .returned (.tuple #[.pointer none, .int .i64 2]) ∧ Below w.heap.size w w' := by
  have t0 : ¬ s < 1 := by omega
  have t1 : ¬ 4096 < s := by omega
  have t2 : ¬ r < 0 := by omega
  have t3 : ¬ 1048576 < r := by omega
  have HC := Lib.hid (mayBe_any v cs w hc hn)
  rw [hb] at HC
  clear h hc hn hb
  go_enter Try.func6, Try.ntmps6
  go_wp2_with (go_at_call 30; refine HC.out.mono ?_; rintro en w1 ⟨rfl, hb1⟩; obtain ⟨D1, rfl⟩ := gr_of_below hb1; clear hb1)
  go_ret2
  exact ⟨rfl, by (repeat (first | exact Below.refl _ _ | refine bg_al ?_ | refine bg_gr ?_ | refine bg_drn ?_ | refine bg_dr ?_ | assumption))⟩

theorem own_vBlock {w : World} {base n : Nat} {e : TypeId} {size : Nat} {v : Value} {xs : List Value} (h : w.ownsRow base e size v n xs) : ∀ k, vBlock v = some k → base ≤ k ∧ k < w.heap.size ∧ ∃ cs fr, w.heap[k]? = some (.cells cs e fr) := by
  rcases h.2 with ⟨rfl, _⟩ | ⟨g, cap, cur, rfl, hb, hg, _⟩
  · intro k hk; simp [vBlock] at hk
  · intro k hk
    simp [vBlock] at hk
    subst hk
    exact ⟨hb, (Array.getElem?_eq_some_iff.1 hg).1, _, _, hg⟩
theorem ownsRow_mono0 {w : World} {base n : Nat} {e : TypeId} {size : Nat} {v : Value} {xs : List Value} (h : w.ownsRow base e size v n xs) : w.ownsRow 0 e size v n xs := own_mono h (Nat.zero_le _)
theorem DB.nil (w : World) (F : Nat → Prop) : DB w F (.slice none 0 0) [] := ⟨SB.nil w, fun k hk => by simp [vBlock] at hk⟩

theorem inv_new (w W1 : World) (D2 : Dl) (s r : Int) (cs : List Ch) (A2 : Option Addr) (c2 : Nat) (h1 : w.heap.size ≤ W1.heap.size)
    (hO : ((W1.alloc (.map #[] 0)).gr D2).ownsRow (W1.alloc (.map #[] 0)).heap.size 27 3 (.slice A2 cs.length c2) cs.length (cs.flatMap chC)) (f : Fd)
    (hf : f = ⟨s, r, .map (some W1.heap.size), .slice none 0 0, 0, zero32, false, .slice A2 cs.length c2, .slice none 0 0, .map (some (W1.heap.size + 1 + D2.k)), .slice none 0 0, .map none, .slice none 0 0⟩) (W : World)
    (hW : W = (((W1.alloc (.map #[] 0)).gr D2).alloc (.map #[] 0)).alloc (.cells (devC f).toArray 84)) :
    Inv W (W1.heap.size + 1 + D2.k + 1) (fun k => w.heap.size ≤ k ∧ k < W.heap.size) (dv0 s r cs) := by
  subst hf
  have e1 : (W1.alloc (.map #[] 0)).heap.size = W1.heap.size + 1 := by simp
  have e2 : ((W1.alloc (.map #[] 0)).gr D2).heap.size = W1.heap.size + 1 + D2.k := by rw [size_gr, e1]
  have e3 : (((W1.alloc (.map #[] 0)).gr D2).alloc (.map #[] 0)).heap.size = W1.heap.size + 1 + D2.k + 1 := by simp [size_gr]
  have e4 : W.heap.size = W1.heap.size + 1 + D2.k + 1 + 1 := by rw [hW]; simp [size_gr]
  have b0 : ∀ k, k < (W1.alloc (.map #[] 0)).heap.size → W.heap[k]? = (W1.alloc (.map #[] 0)).heap[k]? := fun k hk => by
    rw [hW]
    exact (show Below (W1.alloc (.map #[] 0)).heap.size (W1.alloc (.map #[] 0)) _ by (repeat (first | exact Below.refl _ _ | refine bg_al ?_ | refine bg_gr ?_ | refine bg_drn ?_ | refine bg_dr ?_ | assumption))).block k hk
  have b1 : Below ((W1.alloc (.map #[] 0)).gr D2).heap.size ((W1.alloc (.map #[] 0)).gr D2) W := by rw [hW]; (repeat (first | exact Below.refl _ _ | refine bg_al ?_ | refine bg_gr ?_ | refine bg_drn ?_ | refine bg_dr ?_ | assumption))
  have b2 : ∀ k, k < (((W1.alloc (.map #[] 0)).gr D2).alloc (.map #[] 0)).heap.size → W.heap[k]? = (((W1.alloc (.map #[] 0)).gr D2).alloc (.map #[] 0)).heap[k]? := fun k hk => by
    rw [hW]
    exact Below.heap_alloc _ _ k hk
  have m1 := mapIs_made HC W1
  have m2 := mapIs_made HC ((W1.alloc (.map #[] 0)).gr D2)
  rw [e2] at m2
  have hO' := own_below hO b1
  refine ⟨⟨W1.heap.size, W1.heap.size + 1 + D2.k, .slice none 0 0, .slice A2 cs.length c2, .slice none 0 0, .slice none 0 0, .map none, .slice none 0 0⟩, ?_⟩
  refine ⟨?_, ?_, ?_, ?_, .inl rfl, .inr rfl, ?_, ⟨_, m1.of_cell (b0 _ (by omega)), fun q => trivial⟩, ⟨_, 0, m2.of_cell (b2 _ (by omega)), fun q => .inl ⟨rfl, rfl⟩, fun _ _ _ _ _ _ h => by cases h⟩, DB.nil _ _, ⟨SC.own hO', fun k hk => ?_⟩, ⟨own_nil _ _ _ _, fun k hk => by simp [Value.ownBlock] at hk⟩, ⟨[], rfl, own_nil _ _ _ _, fun i h => by simp [dv0] at h, fun k hk => by simp [Value.ownBlock] at hk⟩⟩
  · unfold DevAt
    rw [hW, ← e3, heap_alloc_last]
    rfl
  · omega
  · dsimp only; omega
  · dsimp only; omega
  · dsimp only; omega
  · obtain ⟨h2, h3, h4⟩ := own_vBlock hO' k hk
    exact ⟨by omega, h4⟩

theorem new_ok (s r : Int) (v : Value) (cs : List Ch) (w : World) (h : 1 ≤ s ∧ s ≤ 4096 ∧ 0 ≤ r ∧ r ≤ 1048576) (hc : SC w 3 v cs.length (cs.flatMap chC)) (hn : cs.length ≤ 1099511627776) (hb : mayB cs = true) :
    Calls Try.prog 6 #[.int .i64 s, .int .i64 r, v] w fun e w' => ∃ D, e = .returned (.tuple #[.pointer (some ⟨D, 0, none⟩), .int .i64 0]) ∧ Below w.heap.size w w' ∧ Inv w' D (fun k => w.heap.size ≤ k ∧ k < w'.heap.size) (dv0 s r cs) := by
  have t0 : ¬ s < 1 := by omega
  have t1 : ¬ 4096 < s := by omega
  have t2 : ¬ r < 0 := by omega
  have t3 : ¬ 1048576 < r := by omega
  have HCC := Lib.hid hc
  have HN := Lib.hid hn
  have HM := Lib.hid (mayBe_any v cs w hc hn)
  rw [hb] at HM
  clear h hc hn hb
  go_enter Try.func6, Try.ntmps6
  go_wp2_with (first
    | (go_at_call 30; refine HM.out.mono ?_; rintro en w1 ⟨rfl, hb1⟩; obtain ⟨D1, rfl⟩ := gr_of_below hb1; clear hb1)
    | (go_at_call 31; refine (cclone_any _ _ _ _ (HCC.out.below (by (repeat (first | exact Below.refl _ _ | refine bg_al ?_ | refine bg_gr ?_ | refine bg_drn ?_ | refine bg_dr ?_ | assumption)))).src (chC_one _) HN.out (HCC.out.below (by (repeat (first | exact Below.refl _ _ | refine bg_al ?_ | refine bg_gr ?_ | refine bg_drn ?_ | refine bg_dr ?_ | assumption)))).nz).mono ?_; rintro en w2 ⟨A2, c2, rfl, ho2, hb2⟩; obtain ⟨D2, rfl⟩ := gr_of_below hb2; clear hb2; have HO2 := Lib.hid ho2; clear ho2))
  go_ret2
  have hI := inv_new w (w.gr D1) D2 s r cs A2 c2 (by rw [size_gr]; omega) HO2.out _ rfl _ rfl
  rw [size_gr] at hI
  exact ⟨_, rfl, by (repeat (first | exact Below.refl _ _ | refine bg_al ?_ | refine bg_gr ?_ | refine bg_drn ?_ | refine bg_dr ?_ | assumption)), hI⟩
end Go.Proofs.Ytcbglojjbgenlaa
