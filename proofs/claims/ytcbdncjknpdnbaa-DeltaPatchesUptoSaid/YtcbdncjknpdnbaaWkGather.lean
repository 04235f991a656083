/- walk's gather walked: the words of a tree are put behind the list, up to most in all. -/
import Derived.Test.YtcbdncjknpdnbaaWkNth
import Derived.Test.YtcbdncjknpdnbaaDawgAdd
import Derived.Test.YtcbdncjknpdnbaaStill
import Derived.Deep.RegionLaw
namespace Go.Proofs.Ytcbdncjknpdnbaa
open Go.RowKit

abbrev tStr : TypeId := 9
theorem isEmpty_iff (s : ByteArray) : s.toList.isEmpty = true ↔ s.size = 0 := by
  rw [Lib.toList_data, List.isEmpty_iff_length_eq_zero]
  simp
theorem info_St : (Try.prog.info? tStr).map (fun i => (i.zero, i.size, i.bytes)) = some (some (.string ⟨#[]⟩), 1, 16) := by kernel_rfl
theorem toList_get0 {s : ByteArray} {i : Nat} (h : i < s.size) : s.data.toList[i]? = some s[i] := by
  rw [List.getElem?_eq_getElem (by simpa using h)]; rfl
theorem extract1 (s : ByteArray) : (s.extract 1 s.size).data.toList = s.data.toList.drop 1 := by
  simp [ByteArray.data_extract]
  exact List.take_of_length_le (by simp)
theorem wT_split (t : Trie) (f : List UInt8) (L : List (List UInt8)) (pre : List UInt8) (most : Nat) : (L ++ pwT pre (headL t f) ++ pwT pre (lE t f)).take most = (L ++ pwT pre (wT t f)).take most := by
  unfold wT
  rw [pwT_app, List.append_assoc]

end Go.Proofs.Ytcbdncjknpdnbaa
