/- does of the plain thing, whatever the op. -/
import Derived.Test.YtcbglojjbgenlaaHonLD
import Derived.Test.YtcbglojjbgenlaaHnJ
import Derived.Test.YtcbglojjbgenlaaHnK
import Derived.Test.YtcbglojjbgenlaaHnL
import Derived.Test.YtcbglojjbgenlaaHonLdelete
namespace Go.Proofs.Ytcbglojjbgenlaa
open Go.RowKit Go.MapL Go.ChangeMaps Go.MapKept
set_option linter.unusedSimpArgs false
set_option linter.unusedVariables false

theorem does_any {w0 w : World} {D : Nat} {F : Nat → Prop} {P : Nat} {s : Hn} {keys : List H32} {datas : List Bs} {k : Nat} (h : LInv w0 w D F P s keys datas k) (hk : k < 1000000) (o : Opv) (ho : SB w0 o.da o.data) (hol : o.data.length ≤ 1048576) :
    Calls Try.prog 26 #[.pointer (some ⟨P, 0, none⟩), .pointer (some ⟨D, 0, none⟩), .agg (opC o).toArray] w fun e w' => e = .returned (.bool true) ∧ LDone w0 w' D P (k + 1) := by
  rcases Int.lt_or_le o.kind 1 with h1 | h1
  · exact lother h hk o ho hol (Or.inl h1)
  rcases Int.lt_or_le 10 o.kind with h2 | h2
  · exact lother h hk o ho hol (Or.inr h2)
  have hc : o.kind = 1 ∨ o.kind = 2 ∨ o.kind = 3 ∨ o.kind = 4 ∨ o.kind = 5 ∨ o.kind = 6 ∨ o.kind = 7 ∨ o.kind = 8 ∨ o.kind = 9 ∨ o.kind = 10 := by omega
  rcases hc with e | e | e | e | e | e | e | e | e | e
  · by_cases hq : o.key ∈ keys
    · exact lget_yes h hk o e hq
    · exact lget_no h hk o e hq
  · rcases Nat.lt_or_ge 1024 o.data.length with hl | hl
    · exact lput_long h hk o ho hol e hl
    · by_cases hq : o.key ∈ keys
      · exact putold h hk o ho hol e hl hq
      · rcases Int.lt_or_le keys.length s.slots with hr | hr
        · exact putnew h hk o ho hol e hl hq hr
        · exact lput_full h hk o ho hol e hl hq hr
  · by_cases hq : o.key ∈ keys
    · exact delete h hk o ho hol e hq
    · exact ldelete_no h hk o ho hol e hq
  · exact llist h hk o ho hol e
  · exact lread h hk o ho hol e
  · rcases Int.lt_or_le s.room ((s.log.length : Int) + o.data.length) with hr | hr
    · exact lappend_full h hk o ho hol e hr
    · exact lappend h hk o ho hol e hr
  · rcases Int.lt_or_le o.n 0 with hn | hn
    · exact ltrim_neg h hk o ho hol e hn
    · rcases Int.lt_or_le s.log.length o.n with hn2 | hn2
      · exact ltrim_far h hk o ho hol e hn hn2
      · exact ltrim h hk o ho hol e o.n.toNat (by omega) (by omega)
  · rcases Int.lt_or_le o.n 0 with hn | hn
    · exact lcut_neg h hk o ho hol e hn
    · rcases Int.lt_or_le s.log.length o.n with hn2 | hn2
      · exact lcut_far h hk o ho hol e hn hn2
      · exact lcut h hk o ho hol e o.n.toNat (by omega) (by omega)
  · exact lload h hk o ho hol e
  · rcases Int.lt_or_le o.cnt 1 with hn | hn
    · exact lstore_neg h hk o ho hol e hn
    · rcases Int.lt_or_le 1099511627776 o.cnt with hn2 | hn2
      · exact lstore_far h hk o ho hol e hn2
      · rcases Int.lt_or_le s.cnt o.cnt with hn3 | hn3
        · exact lstore h hk o ho hol e hn hn2 hn3
        · exact lstore_old h hk o ho hol e hn hn2 hn3
end Go.Proofs.Ytcbglojjbgenlaa
