/- Walks: the law's example of the chapter. -/
import Derived.Test.YtjhhjfjgjlheiaaDoorW11
namespace Go.Proofs.Scr
open Go Go.RowKit

theorem fmt_begun : fmt [(3, [2])] = [51, 32, 48, 50, 10] := by decide +kernel
theorem small_begun : Small [(3, [2])] := ⟨fun c hc => by rw [List.mem_singleton.1 hc]; exact ⟨by simp [isInt], by decide⟩, by rw [fmt_begun]; decide, by decide⟩

set_option maxRecDepth 100000 in
set_option maxHeartbeats 1600000 in
theorem begun_any (w : World) (hE : Env w) : Calls Tryd.prog 12 #[] w fun e w' => e = .returned (.bool true) ∧ Below w.heap.size w w' := by
  obtain ⟨w1, hw1⟩ : ∃ w1, w1 = w.alloc (.cells #[.int .u8 2] 5) := ⟨_, rfl⟩
  have s1 : w1.heap.size = w.heap.size + 1 := by rw [hw1]; exact alloc_size _ _
  have r0 : w1.heap[w.heap.size]? = some (.cells #[.int .u8 2] 5) := by rw [hw1]; exact h_new _ _
  obtain ⟨w2, hw2⟩ : ∃ w2, w2 = w1.alloc (.cells #[.int .i64 3, .slice (some ⟨w.heap.size, 0, none⟩) 1 1] 36) := ⟨_, rfl⟩
  have r1 : w2.heap[w.heap.size + 1]? = some (.cells #[.int .i64 3, .slice (some ⟨w.heap.size, 0, none⟩) 1 1] 36) := by rw [hw2, ← s1]; exact h_new _ _
  have r2 : w2.heap[w.heap.size]? = some (.cells #[.int .u8 2] 5) := by rw [hw2, h_old _ _ _ (by omega)]; exact r0
  have G : Below w.heap.size w w2 := by
    rw [hw2]; refine Below.alloc ?_ (by omega) _
    rw [hw1]; exact (Below.refl _ _).alloc (Nat.le_refl _) _
  have hC : CallsAt w2 (.slice (some ⟨w.heap.size + 1, 0, none⟩) 1 1) [(3, [2])] := by
    refine ⟨_, 1, rfl, by decide, fun _ => ⟨_, rfl, fun j hj => ?_⟩⟩
    have hj0 : j = 0 := by simpa using hj
    subst hj0
    refine ⟨cell_of_row _ _ 0 _ _ _ r1, _, cell_of_row _ _ 1 _ _ _ r1, _, 1, rfl, by simp, fun _ => ⟨_, rfl, fun j hj => ?_⟩⟩
    have hj0 : j = 0 := by simpa using hj
    subst hj0
    exact cell_of_row _ _ 0 _ _ _ r2
  have HC := Lib.hid hC
  have HE := Lib.hid (hE.below G)
  have HG := Lib.hid G
  rw [hw1] at hw2
  subst hw2
  clear hC G r0 r1 r2 s1 hw1
  go_enter Tryd.func12, Tryd.ntmps12
  go_wp2_with fail
  refine (format_any _ _ _ HE.out HC.out small_begun).mono ?_
  rintro e w3 ⟨rfl, hb3⟩
  rw [fmt_begun]
  have G3 := HG.out.trans (hb3.mono HG.out.size)
  go_wp2_with fail
  go_ret
  exact ⟨rfl, G3⟩
end Go.Proofs.Scr
