/- The law TextQuotes walked: of any text of at most 2^40 bytes, where utf8's two tables are as they are laid, it answers true. -/
import Derived.Test.YtgegclilhjhnmaaDoorRefQuote
import Derived.Test.YtgegclilhjhnmaaDoorTextQuote
set_option linter.unusedVariables false
set_option linter.unusedSimpArgs false
namespace Go.Proofs.YtgegclilhjhnmaaDoor.X
open Go.RowKit Go.Shelf Go.Proofs.YtgegclilhjhnmaaDoorW.PrintWords Go.Proofs.YtgegclilhjhnmaaDoorW.PrintLast Go.Proofs.YtgegclilhjhnmaaDoorW.PrintMore
theorem awake_quote : quoteV { data := #[97, 34, 10] } = [34, 97, 92, 34, 92, 110, 34] := by decide +kernel
set_option maxHeartbeats 4000000 in
set_option maxRecDepth 100000 in
theorem textQuotes.calls (s : ByteArray) (w : World) (hs : s.size ≤ 1099511627776) (hT : Lib.Utf8Tabs (Tryd.lays196_ren.g 3) (Tryd.lays196_ren.g 4) w) :
    Calls Tryd.prog 3 #[.string s] w fun e w' => e = .returned (.bool true) ∧ Below w.heap.size w w' := by
  have HT := Aside0.mk hT
  clear hT
  have hawake : Calls Tryd.prog 8 #[] w fun e w' => e = .returned (.bool true) ∧ Below w.heap.size w w' := by
    have h2 := awake_quote
    go_enter Tryd.func8, Tryd.ntmps8
    go_wp2_with fail
    refine (text_Quote.calls { data := #[97, 34, 10] } _ (by decide) HT.out).mono ?_
    rintro e w2 ⟨rfl, hb2⟩
    rw [h2]
    have HB2 := Aside0.mk hb2
    clear hb2 h2
    go_wp2
    go_ret
    exact ⟨rfl, HB2.out⟩
  go_enter Tryd.func3, Tryd.ntmps3
  go_wp2_with fail
  refine hawake.mono ?_
  rintro e w1 ⟨rfl, hb⟩
  have HB1 := Aside0.mk hb
  have HT1 := Aside0.mk (Utf8Tabs_below HT.out hb)
  clear hb hawake
  go_wp2_with fail
  refine (text_Quote.calls s w1 hs HT1.out).mono ?_
  rintro e w2 ⟨rfl, hb⟩
  have HB2 := Aside0.mk (below_step HB1.out hb)
  have HT2 := Aside0.mk (Utf8Tabs_below HT1.out hb)
  clear hb
  go_wp2_with fail
  refine (courierref12_Quote.calls s w2 hs HT2.out).mono ?_
  rintro e w3 ⟨rfl, hb⟩
  have HB3 := Aside0.mk (below_step HB2.out hb)
  clear hb
  generalize (⟨(quoteV s).toArray⟩ : ByteArray) = c
  go_wp2_with fail
  go_ret
  exact ⟨rfl, HB3.out⟩
end Go.Proofs.YtgegclilhjhnmaaDoor.X
