/-
  manifest.Apply.
-/
import Derived.Test.YtbheoahpaidpmaaDoorManAppA
import Derived.Test.YtbheoahpaidpmaaDoorManAppB
import Derived.Test.YtbheoahpaidpmaaDoorManAppC
import Derived.Test.YtbheoahpaidpmaaDoorManAppD
import Derived.Test.YtbheoahpaidpmaaDoorManAppE
namespace Go.Proofs.YtbheoahpaidpmaaDoor
open Go Go.RowKit

theorem mapply_any (A : Option Addr) (n c : Nat) (s : St) (e : Ed) (w : World) (hr : Rd w 3 A n (s.Parts.flatMap partCells)) (hn : s.Parts.length = n) (hl : n ≤ 100000) (ha : asc s.Parts) (hN0 : 0 ≤ s.Next) (hN1 : s.Next ≤ 1099511627776) (hD0 : 0 ≤ s.Done) (hD1 : s.Done ≤ 5000) (hp : Pow w) :
    Calls Tryd.prog 17 #[stVal A n c s, edVal e] w (StAt (appV s e) w.heap.size w) := by
  by_cases h0 : e.Kind = 0
  · exact mapply_0 A n c s e w hr hn hl ha hN0 hN1 hD0 hD1 hp h0
  by_cases h1 : e.Kind = 1
  · exact mapply_1 A n c s e w hr hn hl ha hN0 hN1 hD0 hD1 hp h1
  by_cases h2 : e.Kind = 2
  · exact mapply_2 A n c s e w hr hn hl ha hN0 hN1 hD0 hD1 hp h2
  by_cases h3 : e.Kind = 3
  · exact mapply_3 A n c s e w hr hn hl ha hN0 hN1 hD0 hD1 hp h3
  by_cases h4 : e.Kind = 4
  · exact mapply_4 A n c s e w hr hn hl ha hN0 hN1 hD0 hD1 hp h4
  by_cases h5 : e.Kind = 5
  · exact mapply_5 A n c s e w hr hn hl ha hN0 hN1 hD0 hD1 hp h5
  by_cases h6 : e.Kind = 6
  · exact mapply_6 A n c s e w hr hn hl ha hN0 hN1 hD0 hD1 hp h6
  exact mapply_7 A n c s e w hr hn hl ha hN0 hN1 hD0 hD1 hp ⟨h0, h1, h2, h3, h4, h5, h6⟩
end Go.Proofs.YtbheoahpaidpmaaDoor
