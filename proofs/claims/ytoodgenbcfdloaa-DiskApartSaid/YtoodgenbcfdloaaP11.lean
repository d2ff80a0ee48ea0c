/- What a crash leaves is no more files than there are; plain. -/
import Derived.Test.YtoodgenbcfdloaaP8
import Derived.Test.YtoodgenbcfdloaaG18
set_option linter.unusedVariables false
set_option linter.unusedSimpArgs false
namespace Go.Proofs.Ytoodgenbcfdloaa
open Go Go.Sl
theorem crash_len {D : DS} (h : Good D) (keep : Int) (cuts : List (Int × Int)) : (D.crash keep cuts).length ≤ D.fs.length := by
  unfold DS.crash
  rw [leftL_len]
  have h1 := (h.st.kept (clamp keep 0 D.chs.length).toNat).nd
  have h2 := len_le_of_nodup h1 (l2 := List.range D.fs.length) (fun x hx => List.mem_range.2 (h.idlt x (h.keptIds hx)))
  unfold idsL at h2
  rw [List.length_map, List.length_range] at h2
  unfold keptN
  omega
end Go.Proofs.Ytoodgenbcfdloaa
