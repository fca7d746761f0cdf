/- The key of the device's maps: 32 bytes. -/
import Derived.Test.YtcbglojjbgenlaaGrowC
import Derived.Test.YtcbglojjbgenlaaMapLaw
namespace Go.Proofs.Ytcbglojjbgenlaa
open Go.RowKit Go.MapL
open Go.Maps (Keyed)
set_option linter.unusedSimpArgs false

/-- A hash: 32 bytes. -/
abbrev H32 := {l : List UInt8 // l.length = 32}
def hv (q : H32) : Value := .agg (q.1.map bv).toArray

theorem laidOutP : laidOutB Try.prog = true := by kernel_rfl
theorem hashRow : 33 < (Try.prog).types.size := of_decide_eq_true (by kernel_rfl)
theorem hashWide : (match (Try.prog).underlying 33 with | some (.array _ _) | some (.struct _) => true | _ => false) = true := by kernel_rfl
theorem hashKey : (Try.prog).keyType 33 = true := by kernel_rfl
theorem hashAt : (Try.prog).keyTypeAt 2 33 = true := by kernel_rfl
theorem hashLaw : Go.WideMaps.KeyLaw Try.prog 33 := by
  refine deep_law_laid laidOutP (m := 2) (by decide) hashRow hashAt ?_
  rw [Try.underlying33]
theorem hashCells : (Try.prog).cellsOf 33 = 32 := by kernel_rfl
theorem byteCells : (Try.prog).cellsOf 5 = 1 := by kernel_rfl

theorem mapM_all {α β : Type} (f : α → Option β) : ∀ (l : List α), (∀ x ∈ l, ∃ y, f x = some y) → ∃ ys, l.mapM f = some ys
  | [], _ => ⟨[], rfl⟩
  | x :: r, h => by
    obtain ⟨y, hy⟩ := h x (by simp)
    obtain ⟨ys, hys⟩ := mapM_all f r (fun z hz => h z (by simp [hz]))
    exact ⟨y :: ys, by rw [List.mapM_cons, hy, hys]; rfl⟩

theorem keyLits_byte (d : Nat) (x : UInt8) : (Try.prog).keyLits (d + 1) 5 [bv x] = some [.int .u8 ((x.toNat : Nat) : Int)] := by
  have hw : (Lit.int .u8 ((x.toNat : Nat) : Int)).wf = true := by
    have := x.toNat_lt
    simp [Lit.wf, IntKind.min, IntKind.max, IntKind.signed, IntKind.bits]
    first | done | omega | (constructor <;> omega)
  unfold Program.keyLits
  simp only [Try.underlying5, bv]
  simp [hw]

theorem hash_key (q : H32) : ∃ l, keyOf Try.prog 33 (hv q) = some l := by
  have hf : (hv q).formed Try.prog 33 = true := by simp [hv, Value.formed, Try.underlying33, hashCells, q.2]
  have hlits : ∃ ls, (Try.prog).keyLits ((Try.prog).types.size + 1) 33 (hv q).cells.toList = some ls := by
    have hcs : (hv q).cells.toList = q.1.map bv := by simp [hv, Value.cells]
    obtain ⟨ys, hys⟩ := mapM_all (fun i => (Try.prog).keyLits (Try.prog).types.size 5 (((q.1.map bv).drop (i * (Try.prog).cellsOf 5)).take ((Try.prog).cellsOf 5))) (List.range 32) (fun i hi => by
      have hi' : i < q.1.length := by rw [q.2]; exact List.mem_range.1 hi
      have hn : (Try.prog).types.size = ((Try.prog).types.size - 1) + 1 := by have := hashRow; omega
      refine ⟨[.int .u8 ((q.1[i].toNat : Nat) : Int)], ?_⟩
      rw [byteCells, Nat.mul_one, ← List.map_drop, ← List.map_take, List.drop_eq_getElem_cons hi', List.take_succ_cons, List.take_zero, List.map_cons, List.map_nil, hn]
      exact keyLits_byte _ _)
    refine ⟨ys.flatten, ?_⟩
    rw [hcs]
    unfold Program.keyLits
    simp only [Try.underlying33, hashCells, List.length_map, q.2, if_true]
    rw [hys]
    rfl
  obtain ⟨ls, hls⟩ := hlits
  refine ⟨.string (keyBytes ls), ?_⟩
  unfold keyOf
  simp only [Try.underlying33, hashKey, hf, Bool.and_true, if_true]
  rw [hls]
  rfl

theorem bv_inj {x y : UInt8} (h : bv x = bv y) : x = y := by
  unfold bv at h
  injection h with _ h
  exact UInt8.toNat_inj.1 (by exact_mod_cast h)

theorem map_bv_inj : ∀ {a b : List UInt8}, a.map bv = b.map bv → a = b
  | [], [], _ => rfl
  | [], _ :: _, h => by simp at h
  | _ :: _, [], h => by simp at h
  | x :: a, y :: b, h => by
    simp only [List.map_cons, List.cons.injEq] at h
    rw [bv_inj h.1, map_bv_inj h.2]

theorem hv_inj {a b : H32} (h : hv a = hv b) : a = b := by
  unfold hv at h
  injection h with h
  exact Subtype.ext (map_bv_inj (by simpa using congrArg Array.toList h))

/-- the maps' keys. -/
def HC : KeyEnc Try.prog 33 H32 := ⟨hv, hv_inj, hash_key, Keyed.of_law hashLaw⟩

end Go.Proofs.Ytcbglojjbgenlaa
