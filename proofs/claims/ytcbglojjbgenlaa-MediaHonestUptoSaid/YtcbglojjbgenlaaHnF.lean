/- The library's sort at this program's hashes. Keys in their order: bytes.Compare, the closure, the sort. A row of keys sorted. The keys of a map, rising. -/
import Derived.Test.YtcbglojjbgenlaaHnD
import Derived.Shelf.SlSortCmp.NoneTotal
import Derived.Ground.SlsfProg
import Derived.Lib.Bytealg
import Derived.Deep.LoopGhost
namespace Go.Proofs.Ytcbglojjbgenlaa
open Go.Shelf
def hashSort_ren : Go.Shelf.Ren := ⟨fun | 6 => 45 | 15 => 59 | 14 => 58 | 28 => 74 | 29 => 75 | 20 => 66 | 21 => 67 | 22 => 68 | 23 => 69 | 24 => 70 | 25 => 71 | 26 => 72 | 27 => 73 | 46 => 77 | 47 => 78 | 48 => 79 | 49 => 80 | 50 => 81 | 57 => 83 | n => n, fun | 22 => 34 | 24 => 33 | 25 => 109 | 3 => 3 | 39 => 116 | 0 => 0 | 53 => 130 | 55 => 132 | 4 => 4 | 46 => 123 | 45 => 122 | 50 => 127 | 5 => 5 | 9 => 9 | 66 => 135 | 70 => 139 | 76 => 142 | 77 => 57 | n => n, fun | n => n⟩
theorem hashSort : Go.Proofs.SlLaysF0.n6 Try.prog hashSort_ren := {
  mixed := by kernel_rfl
  f6 := ⟨Try.f45.name, by decide, Try.func45.trans (congrArg some (by kernel_rfl))⟩
  f14 := ⟨Try.f58.name, by decide, Try.func58.trans (congrArg some (by kernel_rfl))⟩
  f15 := Try.func59.trans (congrArg some (by kernel_rfl))
  f20 := ⟨Try.f66.name, by decide, Try.func66.trans (congrArg some (by kernel_rfl))⟩
  f21 := ⟨Try.f67.name, by decide, Try.func67.trans (congrArg some (by kernel_rfl))⟩
  f22 := ⟨Try.f68.name, by decide, Try.func68.trans (congrArg some (by kernel_rfl))⟩
  f23 := ⟨Try.f69.name, by decide, Try.func69.trans (congrArg some (by kernel_rfl))⟩
  f24 := ⟨Try.f70.name, by decide, Try.func70.trans (congrArg some (by kernel_rfl))⟩
  f25 := ⟨Try.f71.name, by decide, Try.func71.trans (congrArg some (by kernel_rfl))⟩
  f26 := ⟨Try.f72.name, by decide, Try.func72.trans (congrArg some (by kernel_rfl))⟩
  f27 := ⟨Try.f73.name, by decide, Try.func73.trans (congrArg some (by kernel_rfl))⟩
  f28 := Try.func74.trans (congrArg some (by kernel_rfl))
  f29 := Try.func75.trans (congrArg some (by kernel_rfl))
  f46 := ⟨Try.f77.name, by decide, Try.func77.trans (congrArg some (by kernel_rfl))⟩
  f47 := Try.func78.trans (congrArg some (by kernel_rfl))
  f48 := Try.func79.trans (congrArg some (by kernel_rfl))
  f49 := ⟨Try.f80.name, by decide, Try.func80.trans (congrArg some (by kernel_rfl))⟩
  f50 := ⟨Try.f81.name, by decide, Try.func81.trans (congrArg some (by kernel_rfl))⟩
  f57 := ⟨Try.f83.name, by decide, Try.func83.trans (congrArg some (by kernel_rfl))⟩
  t0 := Try.underlying0
  a0 := Try.isAgg0
  z0 := Try.sizeOf0
  v0 := Try.zeroValue0
  t3 := Try.underlying3
  a3 := Try.isAgg3
  z3 := Try.sizeOf3
  v3 := Try.zeroValue3
  t4 := Try.underlying4
  a4 := Try.isAgg4
  z4 := Try.sizeOf4
  v4 := Try.zeroValue4
  t5 := Try.underlying5
  a5 := Try.isAgg5
  z5 := Try.sizeOf5
  v5 := Try.zeroValue5
  t9 := Try.underlying9
  a9 := Try.isAgg9
  z9 := Try.sizeOf9
  v9 := Try.zeroValue9
  t22 := Try.underlying34
  a22 := Try.isAgg34
  z22 := Try.sizeOf34
  v22 := Try.zeroValue34
  t25 := Try.underlying109
  a25 := Try.isAgg109
  z25 := Try.sizeOf109
  v25 := Try.zeroValue109
  t39 := Try.underlying116
  a39 := Try.isAgg116
  z39 := Try.sizeOf116
  v39 := Try.zeroValue116
  t45 := Try.underlying122
  a45 := Try.isAgg122
  z45 := Try.sizeOf122
  v45 := Try.zeroValue122
  t46 := Try.underlying123
  a46 := Try.isAgg123
  z46 := Try.sizeOf123
  v46 := Try.zeroValue123
  t50 := Try.underlying127
  a50 := Try.isAgg127
  z50 := Try.sizeOf127
  v50 := Try.zeroValue127
  t53 := Try.underlying130
  a53 := Try.isAgg130
  z53 := Try.sizeOf130
  v53 := Try.zeroValue130
  t55 := Try.underlying132
  a55 := Try.isAgg132
  z55 := Try.sizeOf132
  v55 := Try.zeroValue132
  t66 := Try.underlying135
  a66 := Try.isAgg135
  z66 := Try.sizeOf135
  v66 := Try.zeroValue135
  t70 := Try.underlying139
  a70 := Try.isAgg139
  z70 := Try.sizeOf139
  v70 := Try.zeroValue139
  t76 := Try.underlying142
  a76 := Try.isAgg142
  z76 := Try.sizeOf142
  v76 := Try.zeroValue142
  t77 := Try.underlying57
  a77 := Try.isAgg57
  z77 := Try.sizeOf57
  v77 := Try.zeroValue57 }
end Go.Proofs.Ytcbglojjbgenlaa
namespace Go.Proofs.Ytcbglojjbgenlaa
open Go.RowKit Go.Sort
open Go.Lib (compareBytes)
set_option linter.unusedSimpArgs false
set_option linter.unusedVariables false
attribute [local go_sem] size_gr cell_gr frozen_gr setCell_gr gr_drew gr_drewN lt_k lt_kc le_k le_kc sub_kc
attribute [local go_sem ↓] Go.wp_at_zero Go.wp_at_succ

theorem run_loadB : ∀ (l : List UInt8) (a : Addr) (acc : ByteArray) (w : World), (∀ j x, l[j]? = some x → w.cell? (a.add j) = some (.int .u8 x.toNat)) →
    (Extern.Bytes.loadBytes a l.length acc).run Try.prog w = .ok ⟨acc.data ++ l.toArray⟩ w
  | [], a, acc, w, _ => by simp [Extern.Bytes.loadBytes]
  | x :: l, a, acc, w, h => by
    have h0 : w.cell? a = some (.int .u8 x.toNat) := by
      have := h 0 x rfl
      simpa [Addr.add] using this
    have ih := run_loadB l (a.add 1) (acc.push x) w (fun j y hy => by
      have := h (j + 1) y (by simpa using hy)
      have e : (a.add 1).add j = a.add (j + 1) := by
        unfold Addr.add
        by_cases hj : j = 0
        · subst hj; simp
        · simp [hj]; omega
      rw [e]; exact this)
    have hx : ((x.toNat : Int).toNat).toUInt8 = x := by simp
    simp only [List.length_cons, Extern.Bytes.loadBytes, Sem.run_bind, run_load, h0, Result.andThen, hx]
    rw [ih]
    congr 1
    apply ByteArray.ext
    simp [ByteArray.push]
theorem run_bytesOfB {w : World} {v : Value} {l : List UInt8} (h : SB w v l) : (Extern.Bytes.bytesOf v).run Try.prog w = .ok ⟨l.toArray⟩ w := by
  obtain ⟨A, c, rfl, hr, -⟩ := h
  cases A with
  | none =>
    have hn : l = [] := by
      cases l with
      | nil => rfl
      | cons a r => obtain ⟨b, off, e, _⟩ := hr 0 (by simp); cases e
    subst hn
    rfl
  | some a =>
    have := run_loadB l a .empty w (fun j x hj => by
      obtain ⟨hj1, hj2⟩ := List.getElem?_eq_some_iff.1 hj
      obtain ⟨b, off, e, hc⟩ := hr j hj1
      injection e with e
      subst e
      rw [addr_add, hc, hj2])
    simpa [Extern.Bytes.bytesOf] using this
theorem run_compareB {w : World} {va vb : Value} {la lb : List UInt8} (ha : SB w va la) (hb : SB w vb lb) :
    (Extern.BytealgCompare.compare #[va, vb]).run Try.prog w = .ok (.int .i64 (compareBytes la lb)) w := by
  change Sem.run Try.prog (do pure (goInt (Extern.BytealgCompare.cmp (← Extern.Bytes.bytesOf va) (← Extern.Bytes.bytesOf vb)))) w = _
  simp only [Sem.run_bind, Sem.run_pure, Result.andThen, run_bytesOfB ha, run_bytesOfB hb]
  rw [Go.Lib.cmp_eq]
  rfl
theorem ext_compare (args : Array Value) (w : World) : (callFunc 47 args).run Try.prog w = ((Extern.BytealgCompare.compare args).run Try.prog w).andThen fun v w' => .ok (.value v) w' :=
  run_callFunc_extern Try.func47 (by kernel_rfl) (by kernel_rfl) (by kernel_rfl) (by kernel_rfl) args w

theorem bcmp_any (va vb : Value) (la lb : List UInt8) (w : World) (ha : SB w va la) (hb : SB w vb lb) :
    Calls Try.prog 39 #[va, vb] w fun e w' => e = .returned (.int .i64 (compareBytes la lb)) ∧ ∃ n, w' = w.drewN n := by
  have hc := run_compareB ha hb
  clear ha hb
  go_enter Try.func39, Try.ntmps39
  go_wp2
  rw [ext_compare, hc]
  simp only [Result.andThen]
  rw [Oper.upon_value]
  go_wp2
  go_ret
  exact ⟨rfl, 0, rfl⟩

/-- the order of two keys -/
def cmpH (x y : H32) : Int := compareBytes x.1 y.1
theorem cb_self : ∀ a : List UInt8, compareBytes a a = 0
  | [] => rfl
  | x :: a => by
    unfold compareBytes
    have : ¬ x < x := by simp
    simp [this, cb_self a]
theorem cb_trans : ∀ a b c : List UInt8, compareBytes a b < 0 → compareBytes b c < 0 → compareBytes a c < 0
  | [], [], _, h, _ => by simp [compareBytes] at h
  | [], _ :: _, [], _, h => by simp [compareBytes] at h
  | [], _ :: _, _ :: _, _, _ => by simp [compareBytes]
  | _ :: _, [], _, h, _ => by simp [compareBytes] at h
  | _ :: _, _ :: _, [], _, h => by simp [compareBytes] at h
  | x :: a, y :: b, z :: c, h1, h2 => by
    have ih := cb_trans a b c
    unfold compareBytes at h1 h2 ⊢
    simp only [UInt8.lt_iff_toNat_lt] at h1 h2 ⊢
    split at h1
    · split at h2
      · rw [if_pos (by omega)]; omega
      · split at h2
        · omega
        · rw [if_pos (by omega)]; omega
    · split at h1
      · omega
      · split at h2
        · rw [if_pos (by omega)]; omega
        · split at h2
          · omega
          · rw [if_neg (by omega), if_neg (by omega)]
            exact ih h1 h2
theorem cb_ntrans : ∀ a b c : List UInt8, 0 ≤ compareBytes a b → 0 ≤ compareBytes b c → 0 ≤ compareBytes a c
  | [], [], [], _, _ => by simp [compareBytes]
  | [], [], _ :: _, _, h => by simp [compareBytes] at h
  | [], _ :: _, _, h, _ => by simp [compareBytes] at h
  | _ :: _, [], [], _, _ => by simp [compareBytes]
  | _ :: _, [], _ :: _, _, h => by simp [compareBytes] at h
  | _ :: _, _ :: _, [], _, _ => by simp [compareBytes]
  | x :: a, y :: b, z :: c, h1, h2 => by
    have ih := cb_ntrans a b c
    unfold compareBytes at h1 h2 ⊢
    simp only [UInt8.lt_iff_toNat_lt] at h1 h2 ⊢
    split at h1
    · omega
    · split at h1
      · split at h2
        · omega
        · split at h2
          · rw [if_neg (by omega), if_pos (by omega)]; omega
          · rw [if_neg (by omega), if_pos (by omega)]; omega
      · split at h2
        · omega
        · split at h2
          · rw [if_neg (by omega), if_pos (by omega)]; omega
          · rw [if_neg (by omega), if_neg (by omega)]
            exact ih h1 h2
theorem cb_eq : ∀ a b : List UInt8, compareBytes a b = 0 → a = b
  | [], [], _ => rfl
  | [], _ :: _, h => by simp [compareBytes] at h
  | _ :: _, [], h => by simp [compareBytes] at h
  | x :: a, y :: b, h => by
    unfold compareBytes at h
    simp only [UInt8.lt_iff_toNat_lt] at h
    split at h
    · omega
    · split at h
      · omega
      · rw [cb_eq a b h, UInt8.toNat_inj.1 (show x.toNat = y.toNat by omega)]
theorem cb_neg : ∀ a b : List UInt8, compareBytes a b = - compareBytes b a
  | [], [] => rfl
  | [], _ :: _ => by simp [compareBytes]
  | _ :: _, [] => by simp [compareBytes]
  | x :: a, y :: b => by
    have ih := cb_neg a b
    unfold compareBytes
    simp only [UInt8.lt_iff_toNat_lt]
    by_cases h1 : x.toNat < y.toNat
    · rw [if_pos h1, if_neg (by omega), if_pos h1]
    · rw [if_neg h1]
      by_cases h2 : y.toNat < x.toNat
      · rw [if_pos h2, if_pos h2]; rfl
      · rw [if_neg h2, if_neg h2, if_neg h1]
        exact ih
theorem swoH : SWO (ltOf cmpH) where
  irrefl x := by unfold ltOf cmpH; rw [cb_self]; rfl
  trans x y z h1 h2 := by
    unfold ltOf cmpH at *
    simp only [decide_eq_true_eq] at *
    exact cb_trans _ _ _ h1 h2
  ntrans x y z h1 h2 := by
    unfold ltOf cmpH at *
    simp only [decide_eq_false_iff_not, Int.not_lt] at *
    exact cb_ntrans _ _ _ h1 h2

/-- A key's cells. -/
def encH (q : H32) : List Value := q.1.map bv
instance : Inhabited H32 := ⟨zero32⟩
theorem sb_hash {W : World} {g : Nat} {q : H32} (h : W.rangeAt g 0 (q.1.map bv)) : SB W (.slice (some ⟨g, 0, none⟩) 32 32) q.1 := by
  refine ⟨some ⟨g, 0, none⟩, 32, by rw [q.2], fun j hj => ⟨g, 0, rfl, ?_⟩, by rw [q.2]; omega, by simp [maxLen], fun h => by cases h⟩
  have := h j (bv q.1[j]) (by rw [List.getElem?_map, List.getElem?_eq_getElem hj]; rfl)
  simpa [bv] using this
theorem elemHash : (Try.prog).elem 33 = 5 := by kernel_rfl
theorem lenHash : (Try.prog).arrayLen 33 = 32 := by kernel_rfl
theorem slice_hash (W : World) (g : Nat) : (Instr.sliceAt 33 (.pointer (some ⟨g, 0, none⟩)) none none none).run Try.prog W = .ok (.slice (some ⟨g, 0, none⟩) 32 32) W := by
  have h := run_sliceAt_array_all (P := Try.prog) (w := W) 33 ⟨g, 0, none⟩ (by rw [elemHash, lenHash]; exact Try.underlying33)
  rw [h, elemHash, lenHash, Try.sizeOf5]
  rfl
attribute [local go_sem] slice_hash
set_option maxRecDepth 8000 in
theorem closureH (x y : H32) (W : World) : Calls Try.prog 46 #[.agg (encH x).toArray, .agg (encH y).toArray] W fun e w' => e = .returned (.int .i64 (cmpH x y)) ∧ ∃ q os', w' = grow (W.drewN q) os' := by
  unfold encH cmpH
  go_enter Try.func46, Try.ntmps46
  go_wp2_with fail
  refine with_world (fun W0 hW0 => ?_)
  have hB0 : Below W.heap.size W W0 := by rw [hW0]; (repeat (first | exact Below.refl _ _ | refine bg_al ?_ | refine bg_gr ?_ | refine bg_drn ?_ | refine bg_dr ?_ | assumption))
  have hx : W0.rangeAt W.heap.size 0 (x.1.map bv) := by rw [hW0]; exact range_bel (range_hash W _ x rfl) (by (repeat (first | exact Below.refl _ _ | refine bg_al ?_ | refine bg_gr ?_ | refine bg_drn ?_ | refine bg_dr ?_ | assumption)))
  have hy : W0.rangeAt (W.heap.size + 1) 0 (y.1.map bv) := by rw [hW0]; exact range_hash (W.alloc (.cells (x.1.map bv).toArray 33)) _ y (by simp)
  have hg : ∃ os, W0 = grow W os := ⟨_, by rw [hW0, alloc_eq_grow, alloc_eq_grow, grow_grow]⟩
  have HB0 := Lib.hid hB0
  have HX := Lib.hid hx
  have HY := Lib.hid hy
  have HG := Lib.hid hg
  clear hW0 hB0 hx hy hg
  go_region_held3 (fun W' => W'.heap = W0.heap) (rfl)
    (first | (go_at_call 39; refine (bcmp_any _ _ x.1 y.1 _ (sb_hash (range_bel HX.out (by (repeat (first | exact Below.refl _ _ | refine bg_al ?_ | refine bg_gr ?_ | refine bg_drn ?_ | refine bg_dr ?_ | assumption))))) (sb_hash (range_bel HY.out (by (repeat (first | exact Below.refl _ _ | refine bg_al ?_ | refine bg_gr ?_ | refine bg_drn ?_ | refine bg_dr ?_ | assumption)))))).mono ?_; rintro en w2 ⟨rfl, n2, rfl⟩))
  go_wp2_with fail
  go_ret
  obtain ⟨os, hos⟩ := HG.out
  exact ⟨rfl, 1 + n2, os, by rw [hos]; rfl⟩
end Go.Proofs.Ytcbglojjbgenlaa
namespace Go.Proofs.Ytcbglojjbgenlaa
open Go.RowKit Go.Sort
set_option linter.unusedSimpArgs false
set_option linter.unusedVariables false

theorem encH_len (q : H32) : (encH q).length = 32 := q_len q
theorem flat_at : ∀ (ks : List H32) (t : Nat), t < ks.length * 32 → (ks.flatMap encH)[t]? = some ((encH (ks.toArray[t / 32]!))[t % 32]!)
  | [], t, h => by simp at h
  | x :: r, t, h => by
    rw [List.flatMap_cons]
    by_cases ht : t < 32
    · rw [List.getElem?_append_left (by rw [encH_len]; exact ht), show t / 32 = 0 by omega, show t % 32 = t by omega]
      have : (x :: r).toArray[0]! = x := rfl
      rw [this, List.getElem?_eq_getElem (by rw [encH_len]; exact ht), getElem!_pos (encH x) t (by rw [encH_len]; exact ht)]
    · rw [List.getElem?_append_right (by rw [encH_len]; omega), encH_len, flat_at r (t - 32) (by simp at h; omega), show (t - 32) % 32 = t % 32 by omega]
      have e : t / 32 = (t - 32) / 32 + 1 := by omega
      have hl : (t - 32) / 32 < r.length := by simp at h; omega
      rw [e]
      congr 3
      rw [getElem!_pos r.toArray _ (by simpa using hl), getElem!_pos (x :: r).toArray _ (by simpa using hl)]
      simp
theorem flatK_at (d : Array H32) (t : Nat) (h : t < d.size * 32) : (flatK encH 32 d)[t]! = ((encH d[t / 32]!)[t % 32]!) := get_flatK encH 32 d t h
theorem flatK_list (ks : List H32) (t : Nat) (h : t < ks.length * 32) : (ks.flatMap encH)[t]? = some (flatK encH 32 ks.toArray)[t]! := by
  rw [flat_at ks t h, flatK_at _ _ (by simpa using h)]
theorem flatH_len (ks : List H32) : (ks.flatMap encH).length = ks.length * 32 := by
  induction ks with
  | nil => rfl
  | cons x r ih => rw [List.flatMap_cons, List.length_append, ih, encH_len, List.length_cons]; omega

theorem holds_keys {w : World} {base g cap : Nat} {ks : List H32} (h : w.ownsRow base 33 32 (.slice (some ⟨g, 0, none⟩) ks.length cap) ks.length (ks.flatMap encH)) : HoldsK encH 32 w g 0 ks.toArray := by
  rcases h.2 with ⟨e, _⟩ | ⟨g', cap', cur, e, hb, hg, h1, h2, h3, h4⟩
  · cases e
  · injection e with e1 e2 e3
    injection e1 with e1
    injection e1 with e1
    subst e1 e3
    intro j hj
    have hj' : j < ks.length * 32 := by simpa using hj
    refine ⟨?_, frozen_of_row _ _ _ _ _ hg⟩
    rw [cell_of_row w g (0 + j) _ _ _ hg, Nat.zero_add]
    have := flatK_list ks j hj'
    rw [← h4, List.getElem?_take, if_pos hj'] at this
    simpa using this

theorem owns_sorted {w : World} {base g cap n : Nat} {ks : List H32} (h : w.ownsRow base 33 32 (.slice (some ⟨g, 0, none⟩) ks.length cap) ks.length (ks.flatMap encH)) (d' : Array H32) (hs : d'.size = ks.length) (os : Array Obj) :
    (sortWorldK encH 32 w g 0 n d' os).ownsRow base 33 32 (.slice (some ⟨g, 0, none⟩) ks.length cap) ks.length (d'.toList.flatMap encH) ∧ Chg (fun k => k = g) w (sortWorldK encH 32 w g 0 n d' os) := by
  rcases h.2 with ⟨e, _⟩ | ⟨g', cap', cur, e, hb, hg, h1, h2, h3, h4⟩
  · cases e
  · injection e with e1 e2 e3
    injection e1 with e1
    injection e1 with e1
    subst e1 e3
    have hgl := (Array.getElem?_eq_some_iff.1 hg).1
    have hheap : (sortWorldK encH 32 w g 0 n d' os).heap = (w.heap.modify g (fun o => match o with | .cells c t fr => .cells (putCells id 0 (flatK encH 32 d') c) t fr | o => o)) ++ os := rfl
    have hg2 : (sortWorldK encH 32 w g 0 n d' os).heap[g]? = some (.cells (putCells id 0 (flatK encH 32 d') cur) 33 (0, 0)) := by
      rw [hheap, Array.getElem?_append_left (by simpa using hgl), Array.getElem?_modify, if_pos rfl, hg]
      rfl
    refine ⟨⟨by rw [flatH_len]; simp [hs], Or.inr ⟨g, cap, putCells id 0 (flatK encH 32 d') cur, rfl, hb, hg2, h1, h2, by simp [putCells, h3], ?_⟩⟩, rfl, rfl, rfl, by rw [hheap]; simp, fun k hk hne => ?_⟩
    · apply List.ext_getElem?
      intro j
      by_cases hj : j < ks.length * 32
      · rw [List.getElem?_take, if_pos hj]
        have hf := flatK_list d'.toList j (by simpa [hs] using hj)
        rw [hf]
        have hjc : j < cur.size := by
          have : ks.length * 32 ≤ cap * 32 := Nat.mul_le_mul_right 32 h1
          omega
        simp only [putCells, Array.getElem?_toList, Array.getElem?_mapIdx, Array.getElem?_eq_getElem hjc, Option.map_some, size_flatK, hs, id]
        rw [if_pos ⟨Nat.zero_le _, by omega⟩]
        simp
      · rw [List.getElem?_eq_none (by simp; omega), List.getElem?_eq_none (by rw [flatH_len]; simp [hs]; omega)]
    · rw [hheap, Array.getElem?_append_left (by simpa using hk), Array.getElem?_modify, if_neg (fun e => hne e.symm)]

theorem sort_hash (base g cap : Nat) (ks : List H32) (w : World) (h : w.ownsRow base 33 32 (.slice (some ⟨g, 0, none⟩) ks.length cap) ks.length (ks.flatMap encH)) (hn : ks.length < 4611686018427387904) (hnd : ks.Nodup) :
    Calls Try.prog 45 #[.slice (some ⟨g, 0, none⟩) ks.length cap, .func (.func 46) #[] #[]] w fun e w' => e = .returned (.tuple #[]) ∧
      ∃ ks' : List H32, ks'.Perm ks ∧ ks'.Pairwise (fun x y => cmpH x y < 0) ∧ w'.ownsRow base 33 32 (.slice (some ⟨g, 0, none⟩) ks.length cap) ks.length (ks'.flatMap encH) ∧ Chg (fun k => k = g) w w' := by
  have eg : ∀ args w, (callFunc 46 args).run Try.prog w = .ok (.enter 46 args) w := enters_of Try.func46 (by kernel_rfl) rfl
  have hgl : g < w.heap.size := by
    obtain ⟨_, _, hh⟩ := own_heap h (k := g) rfl
    exact (Array.getElem?_eq_some_iff.1 hh).1
  have hcon := AnyQ.slices_SortFunc hashSort 32 Try.isAgg33 Try.sizeOf33 encH encH_len (fun x v hv => bv_one _ v hv) cmpH swoH 46 #[] g 0 cap ks.toArray w eg (fun m os dk hs x y => closureH x y _) (holds_keys h) hgl (by simpa using hn)
  refine hcon.mono ?_
  rintro e w' ⟨rfl, d', n, os, hp, hs, rfl⟩
  have hsz : d'.size = ks.length := by simpa using hp.1
  have hperm : d'.toList.Perm ks := by
    have := hp.2.2
    simpa [hsz, Array.extract_eq_self_of_le] using this
  have hnd' : d'.toList.Nodup := hperm.nodup_iff.2 hnd
  obtain ⟨h1, h2⟩ := owns_sorted h d' hsz os (n := n)
  refine ⟨rfl, d'.toList, hperm, ?_, h1, h2⟩
  rw [List.pairwise_iff_getElem]
  intro i j hi hj hij
  have hsij := hs i j (Nat.zero_le _) hij (by simp; simpa [hsz] using hj)
  have hj' : j < d'.size := by simpa using hj
  have hi' : i < d'.size := by simpa using hi
  rw [getElem!_pos d' j hj', getElem!_pos d' i hi'] at hsij
  unfold ltOf at hsij
  simp only [decide_eq_false_iff_not, Int.not_lt] at hsij
  have hne : d'[i] ≠ d'[j] := by
    have := (List.pairwise_iff_getElem.1 hnd') i j hi hj hij
    simpa using this
  simp only [Array.getElem_toList]
  unfold cmpH at hsij ⊢
  have hneg := cb_neg d'[j].1 d'[i].1
  rcases Int.lt_trichotomy (Go.Lib.compareBytes d'[i].1 d'[j].1) 0 with h | h | h
  · exact h
  · exact absurd (Subtype.ext (cb_eq _ _ h)) hne
  · omega
end Go.Proofs.Ytcbglojjbgenlaa
namespace Go.Proofs.Ytcbglojjbgenlaa
open Go.RowKit Go.MapL Go.ChangeMaps Go.MapKept
set_option linter.unusedSimpArgs false
set_option linter.unusedVariables false
attribute [local go_sem] size_gr cell_gr frozen_gr setCell_gr gr_drew gr_drewN lt_k lt_kc le_k le_kc sub_kc nil29 nil28 nil49 mkmap size_setBlock cell_setB
attribute [local go_sem ↓] Go.wp_at_zero Go.wp_at_succ

theorem hashesT : SlT Try.prog 34 33 (.agg (List.replicate 32 (Value.int .u8 0)).toArray) 32 32 := ⟨Try.underlying34, by kernel_rfl, by rfl, by decide⟩
theorem st_hash1 (W : World) (g : Nat) (q : H32) (c : Array Value) (hg : W.heap.size = g) (hc : c.size = 32) :
    (storeCells ⟨g, 0, none⟩ (q.1.map bv) 0).run Try.prog (W.alloc (.cells c 33)) = .ok () (W.alloc (.cells (q.1.map bv).toArray 33)) := by
  subst hg
  have := run_storeCells_new (P := Try.prog) W 33 c (q.1.map bv).toArray (by rw [List.size_toArray]; exact hash_info q) (by simp [hc, q.2]) (all_oneCell_toArray (bv_one _))
  simpa using this
attribute [local go_sem] st_hash1

theorem fold_all (l : List Value) (a : Array Value) (h : a.size = l.length) : List.foldl (fun cs x => cs.setIfInBounds x.2 x.1) a l.zipIdx = l.toArray := by
  have := fold_set l 0 0 a (by omega)
  simp only [Nat.zero_add, Nat.add_zero] at this
  rw [this]
  apply Array.ext'
  simp [List.drop_eq_nil_of_le (show a.toList.length ≤ l.length by simp [h])]
theorem fold_hash (q : H32) : List.foldl (fun cs x => cs.setIfInBounds x.2 x.1) #[Value.int .u8 0, Value.int .u8 0, Value.int .u8 0, Value.int .u8 0, Value.int .u8 0, Value.int .u8 0, Value.int .u8 0, Value.int .u8 0, Value.int .u8 0, Value.int .u8 0, Value.int .u8 0, Value.int .u8 0, Value.int .u8 0, Value.int .u8 0, Value.int .u8 0, Value.int .u8 0, Value.int .u8 0, Value.int .u8 0, Value.int .u8 0, Value.int .u8 0, Value.int .u8 0, Value.int .u8 0, Value.int .u8 0, Value.int .u8 0, Value.int .u8 0, Value.int .u8 0, Value.int .u8 0, Value.int .u8 0, Value.int .u8 0, Value.int .u8 0, Value.int .u8 0, Value.int .u8 0] (q.1.map bv).zipIdx = (encH q).toArray := fold_all _ _ (by rw [q_len]; rfl)
/-- rising's slice: the keys so far -/
def KeysAt (w : World) (base : Nat) (v : Value) (ks : List H32) : Prop := w.ownsRow base 33 32 v ks.length (ks.flatMap encH)

set_option maxHeartbeats 1000000 in
set_option maxRecDepth 8000 in
theorem rising_any (B n : Nat) (m : H32 → Option Value) (w : World) (hB : MapIs HC w B m n) (hn : n ≤ 1099511627776) :
    Calls Try.prog 38 #[.map (some B)] w fun e w' => ∃ v ks, e = .returned v ∧ KeysAt w' w.heap.size v ks ∧ ks.Pairwise (fun x y => cmpH x y < 0) ∧ (∀ q, q ∈ ks ↔ (m q).isSome = true) ∧ Below w.heap.size w w' := by
  have HB := Lib.hid hB
  have HN := Lib.hid hn
  have hBlt := hB.lt
  have hql := fun q : H32 => q_len q
  clear hB hn
  go_enter Try.func38, Try.ntmps38
  go_wp2_with (first
    | (at_range; refine wl_range rfl _ _ rfl _ Try.underlying76 (by rfl) (HB.out) ?_; intro ob hrg; have HRG := Lib.hid hrg; clear hrg))
  go_frame
  go_loopg [3] n (fun k l wr => ∃ ks left A c, l = .slice A (List.length ks) c ∧ Ranging HC wr B w.heap.size m n left k ∧ KeysAt wr (w.heap.size + 1) (.slice A ks.length c) ks ∧ ks.Nodup ∧ (∀ q, q ∈ ks ↔ (m q).isSome = true ∧ ¬ left q) ∧ ks.length + k ≤ n ∧ Below w.heap.size w wr)
  case atStart =>
    refine ⟨[], _, none, 0, rfl, HRG.out, own_nil _ _ _ _, List.nodup_nil, fun q => ?_, by simp, by (repeat (first | exact Below.refl _ _ | refine bg_al ?_ | refine bg_gr ?_ | refine bg_drn ?_ | refine bg_dr ?_ | assumption))⟩
    simp [Option.isSome_iff_ne_none]
  case round =>
    obtain ⟨ks, left, A, c, rfl, hrg, hks, hnd, hmem, hle, hbw⟩ := hrel
    have HR := Lib.hid hrg
    have HK := Lib.hid hks
    have HND := Lib.hid hnd
    have HM := Lib.hid hmem
    have HLE := Lib.hid hle
    have HBW := Lib.hid hbw
    clear hrg hks hnd hmem hle hbw
    go_wp2_with (first | (at_next; refine wl_next rfl _ rfl rfl HR.out ?_ ?_))
    · intro hc0 hl0
      have hkn : ∀ q, q ∈ ks ↔ (m q).isSome = true := fun q => by
        rw [HM.out q]
        exact ⟨fun h => h.1, fun h => ⟨h, hl0 q.1 q.2⟩⟩
      have HKN := Lib.hid hkn
      clear hkn hl0 hc0
      by_cases hk0 : ks = []
      · subst hk0
        go_wp2_with (go_at_call 45; refine (AnyF.slices_SortFunc_none hashSort A c _ _).mono ?_; rintro e w' ⟨rfl, rfl⟩)
        go_ret
        exact ⟨_, [], rfl, own_mono HK.out (by omega), List.Pairwise.nil, HKN.out, HBW.out⟩
      · obtain ⟨g, cap, e1, h1, h2, h3, h4⟩ := own_form HK.out (List.length_pos_iff.2 hk0)
        injection e1 with e1 _ e3
        subst e1 e3
        go_wp2_with (go_at_call 45; refine (sort_hash _ g c ks _ HK.out (by have := HLE.out; have := HN.out; omega) HND.out).mono ?_; rintro en w2 ⟨rfl, ks', hp, hsort, hown, hc2⟩; have HP := Lib.hid hp; have HS := Lib.hid hsort; have HO := Lib.hid hown; have HC2 := Lib.hid hc2; clear hp hsort hown hc2)
        go_ret
        refine ⟨_, ks', rfl, ?_, HS.out, fun q => ?_, ?_⟩
        · unfold KeysAt
          rw [HP.out.length_eq]
          exact own_mono HO.out (by omega)
        · rw [HP.out.mem_iff]
          exact HKN.out q
        · exact HBW.out.trans (HC2.out.bel (fun k hk => by omega) HBW.out.size)
    · intro ql hq
      obtain ⟨q, rfl⟩ : ∃ q : H32, ql = q.1 := ⟨⟨ql, hq⟩, rfl⟩
      intro v w1 ob cnt' hlq hmq hw1 hr1 hcl hen
      rw [show HC.ek ⟨q.1, hq⟩ = .agg (q.1.map bv).toArray from rfl]
      have hz1 : w1.heap.size = wr.heap.size := by rcases hw1 with rfl | rfl <;> rfl
      have hC1 : Chg (fun k => k = w.heap.size) wr (setBlock w1 w.heap.size ob) := chg_setB (S := fun k => k = w.heap.size) (by rcases hw1 with rfl | rfl <;> exact Below.chg _ (by (repeat (first | exact Below.refl _ _ | refine bg_al ?_ | refine bg_gr ?_ | refine bg_drn ?_ | refine bg_dr ?_ | assumption)))) rfl ob
      have hen' : (Instr.entry (.pointer (some ⟨w.heap.size, 0, none⟩))).run Try.prog (setBlock w1 w.heap.size ob) = .ok (.tuple #[.agg (q.1.map bv).toArray, v]) (setBlock w1 w.heap.size ob) := hen
      have hKs : (setBlock w1 w.heap.size ob).ownsRow (w.heap.size + 1) 33 32 (.slice A ks.length c) ks.length (ks.flatMap encH) := own_chg HK.out hC1 (fun k hk e => by
        have := own_ge HK.out k hk
        omega)
      have hb1 : Below w.heap.size w (setBlock w1 w.heap.size ob) := HBW.out.trans (hC1.bel (fun k hk => by omega) HBW.out.size)
      have hwl : w.heap.size < wr.heap.size := HR.out.lt
      have HR1 := Lib.hid hr1
      have HLQ := Lib.hid hlq
      have HMQ := Lib.hid hmq
      have HKS := Lib.hid hKs
      have HB1 := Lib.hid hb1
      clear hen hC1 hKs hb1 hr1 hlq hmq hw1
      generalize hWW : setBlock w1 w.heap.size ob = W0 at *
      have hzW : W0.heap.size = wr.heap.size := by rw [← hWW, size_setBlock, hz1]
      have hwl2 : w.heap.size < W0.heap.size := by omega
      have HZW := Lib.hid hzW
      clear hWW hz1 hzW hwl
      go_wp2_with (first
        | (refine wpList_load_mid rfl 33 _ rfl _ _ (by rfl) (q.1.map bv) _ (range_hash W0 _ q rfl) Try.underlying33 rfl (hash_info q) ?_)
        | (at_builtin; rw [fold_hash]; refine wpList_ap (base := w.heap.size + 1) (v := .slice A ks.length c) (n := ks.length) (xs := ks.flatMap encH) (m := 1) (news := encH q) hashesT rfl rfl (by rfl) (own_below HKS.out (by (repeat (first | exact Below.refl _ _ | refine bg_al ?_ | refine bg_gr ?_ | refine bg_drn ?_ | refine bg_dr ?_ | assumption)))) (by rfl) (Src.block (m := 1) (cs := (encH q).toArray) (t := 33) (fr := (0, 0)) (by (repeat (first | (refine blk_new ?_; first | rfl | (simp only [World.size_alloc, size_gr, World.size_setCell, World.size_drew]; done) | (simp only [World.size_alloc, size_gr, World.size_setCell, World.size_drew]; omega) | omega) | refine blk_dr ?_ | refine blk_drn ?_ | refine blk_al (by simp only [World.size_alloc, size_gr, World.size_setCell, World.size_drew]; omega) ?_ | refine blk_gr (by simp only [World.size_alloc, size_gr, World.size_setCell, World.size_drew]; omega) ?_ | assumption))) (by rw [List.size_toArray, encH_len])) (bv_one q.1) (by have := HLE.out; have := HN.out; simp only [maxLen]; omega) (by have := HLE.out; have := HN.out; omega) (by simp; omega) ?_; intro v9 w9 hap))
      have HAP := Lib.hid hap
      clear hap
      go_roundg cnt'
      case measure => exact hcl
      case rel =>
        obtain ⟨A9, c9, e9⟩ := row_slice HAP.out.1
        have hlq : left q := HLQ.out
        have hmq : m q = some v := HMQ.out
        have hap := HAP.out
        have hbW : Below (w.heap.size + 1) W0 w9 := by
          refine ap_below (w := ((W0.alloc (.cells (q.1.map bv).toArray 33)).alloc (.cells (encH q).toArray 33))) ?_ hap (by simp; omega) (fun k hk => own_ge HKS.out k hk)
          exact (show Below W0.heap.size W0 _ by (repeat (first | exact Below.refl _ _ | refine bg_al ?_ | refine bg_gr ?_ | refine bg_drn ?_ | refine bg_dr ?_ | assumption))).mono (by omega)
        have hno : q ∉ ks := fun hq' => ((HM.out q).1 hq').2 hlq
        have hlen : (ks ++ [q]).length = ks.length + 1 := by simp
        refine ⟨ks ++ [q], fun q' => left q' ∧ q' ≠ q, A9, c9, by rw [hlen]; exact e9, HR1.out.of_cells (hbW.block _ (by omega)) (hbW.block _ (by omega)), ?_, ?_, fun q' => ?_, by rw [hlen]; have := HLE.out; omega, HB1.out.trans (hbW.mono (by omega))⟩
        · unfold KeysAt
          rw [hlen, ← e9, List.flatMap_append]
          simp only [List.flatMap_cons, List.flatMap_nil, List.append_nil]
          exact hap.1
        · rw [List.nodup_append]
          exact ⟨HND.out, by simp, fun a ha b hb => by simp at hb; subst hb; rintro rfl; exact hno ha⟩
        · rw [List.mem_append, HM.out q', List.mem_singleton]
          constructor
          · rintro (⟨h1, h2⟩ | rfl)
            · exact ⟨h1, fun h => h2 h.1⟩
            · exact ⟨by rw [hmq]; rfl, fun h => h.2 rfl⟩
          · rintro ⟨h1, h2⟩
            by_cases e : q' = q
            · exact Or.inr e
            · exact Or.inl ⟨h1, fun h => h2 ⟨h, e⟩⟩
end Go.Proofs.Ytcbglojjbgenlaa
