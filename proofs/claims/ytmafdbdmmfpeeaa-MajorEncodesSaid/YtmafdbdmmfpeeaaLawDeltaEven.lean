/-
  The walk of the law 'DeltaEven'.
-/
import Derived.Test.YtmafdbdmmfpeeaaDeltaLen
import Derived.Test.YtmafdbdmmfpeeaaRDEnc0
namespace Go.Proofs.Ytmafdbdmmfpeeaa
open Go Go.RowKit

theorem sampleInf : (Try.prog.info? 60).map (fun i => (i.zero, i.size, i.bytes)) = some (some (.agg #[.int .i64 0, .int .i64 0]), 2, 16) := by kernel_rfl
/-- a row of the call's own as a slice that is read -/
theorem own_slice {w : World} {B n : Nat} {e : TypeId} {size : Nat} {v : Value} {xs : List Value} (h : w.ownsRow B e size v n xs) : ∃ A c, v = .slice A n c ∧ Rd w size A n xs ∧ n ≤ c ∧ c ≤ maxLen := by
  have hrd := Rd.of_own h
  rcases h.2 with ⟨rfl, rfl⟩ | ⟨g, cap, cur, rfl, hb, hg, hn, hm, hs, ht⟩
  · obtain ⟨A, c, e, hr⟩ := hrd
    cases e
    exact ⟨none, 0, rfl, hr, by omega, by unfold maxLen; omega⟩
  · obtain ⟨A, c, e, hr⟩ := hrd
    cases e
    exact ⟨_, cap, rfl, hr, hn, hm⟩

end Go.Proofs.Ytmafdbdmmfpeeaa
