/-
  The document's Apply.
-/
import Derived.Test.YtbheoahpaidpmaaDoorRManE
import Derived.Test.YtbheoahpaidpmaaDoorRManF
import Derived.Test.YtbheoahpaidpmaaDoorRManH
namespace Go.Proofs.YtbheoahpaidpmaaDoor
open Go Go.RowKit

theorem rapply_any (A : Option Addr) (n c : Nat) (s : St) (e : Ed) (w : World) (hr : Rd w 3 A n (s.Parts.flatMap partCells)) (hn : s.Parts.length = n) (hl : n ≤ 100000) (hN0 : 0 ≤ s.Next) (hD0 : 0 ≤ s.Done) (hD1 : s.Done ≤ 5000) :
    Calls Tryd.prog 18 #[stVal A n c s, edVal e] w (StAt (appV s e) w.heap.size w) := by
  by_cases h0 : e.Kind = 0
  · exact rapply_0 A n c s e w hr hn hl hN0 hD0 hD1 h0
  by_cases h1 : e.Kind = 1
  · exact rapply_1 A n c s e w hr hn hl hN0 hD0 hD1 h1
  by_cases h2 : e.Kind = 2
  · exact rapply_2 A n c s e w hr hn hl hN0 hD0 hD1 h2
  by_cases h3 : e.Kind = 3
  · exact rapply_3 A n c s e w hr hn hl hN0 hD0 hD1 h3
  by_cases h4 : e.Kind = 4
  · exact rapply_4 A n c s e w hr hn hl hN0 hD0 hD1 h4
  by_cases h5 : e.Kind = 5
  · exact rapply_5 A n c s e w hr hn hl hN0 hD0 hD1 h5
  by_cases h6 : e.Kind = 6
  · exact rapply_6 A n c s e w hr hn hl hN0 hD0 hD1 h6
  exact rapply_7 A n c s e w hr hn hl hN0 hD0 hD1 ⟨h0, h1, h2, h3, h4, h5, h6⟩
end Go.Proofs.YtbheoahpaidpmaaDoor
