/- Walks: script.Parse, the example of the chapter. -/
import Derived.Test.YtjhhjfjgjlheiaaDoorW10
namespace Go.Proofs.Scr
open Go Go.RowKit

set_option maxRecDepth 100000 in
set_option maxHeartbeats 1600000 in
theorem parse_any (l : List UInt8) (w : World) (hE : Env w) (hl : l.length ≤ 1000000) :
    Calls Tryd.prog 9 #[.string ⟨l.toArray⟩] w (PPost l w) := by
  go_enter Tryd.func9, Tryd.ntmps9
  go_wp2_with fail
  refine (lines_any l _ hE hl).mono ?_
  intro e w1 h
  obtain ⟨⟨o, hR, ho⟩, hb1⟩ := h
  cases o with
  | ok L =>
    obtain ⟨v, rfl, hv⟩ := ho
    have HP : Hid (PPost l w (.returned (.tuple #[v, .int .i64 0, .int .i64 0])) w1) := Lib.hid ⟨⟨.ok L, hR, v, rfl, hv⟩, hb1⟩
    clear hR hv
    go_wp2_with fail
    go_ret3
    exact HP.out
  | bad i =>
    obtain rfl := ho
    have HP : Hid (PPost l w (.returned (.tuple #[.slice none 0 0, .int .i64 (i : Int), .int .i64 2])) w1) := Lib.hid ⟨⟨.bad i, hR, rfl⟩, hb1⟩
    clear hR
    go_wp2_with fail
    go_ret3
    exact HP.out
end Go.Proofs.Scr
