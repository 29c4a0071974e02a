/- Walks: the reference writes a script. -/
import Derived.Test.YtjhhjfjgjlheiaaDoorW2
namespace Go.Proofs.Scr
open Go Go.RowKit
open Go.Lib (itoa decDigits)

theorem fmt_take_snoc (L : List (Int × List UInt8)) (k : Nat) (h : k < L.length) : fmt (L.take (k + 1)) = fmt (L.take k) ++ line L[k] := by
  rw [List.take_succ_eq_append_getElem h, fmt_append]; simp [fmt]
theorem fmt_take_le (L : List (Int × List UInt8)) (k : Nat) : (fmt (L.take k)).length ≤ (fmt L).length := by
  conv => rhs; rw [← List.take_append_drop k L, fmt_append]
  simp

def Small (L : List (Int × List UInt8)) : Prop := (∀ c ∈ L, isInt c.1 ∧ c.2.length ≤ 1000000) ∧ (fmt L).length ≤ 1000000000 ∧ L.length ≤ 1000000

set_option maxRecDepth 100000 in
set_option maxHeartbeats 1600000 in
theorem refFormat_any (lv : Value) (L : List (Int × List UInt8)) (w : World) (hL : CallsAt w lv L) (hs : Small L) :
    Calls Tryd.prog 7 #[lv] w fun e w' => e = .returned (.string ⟨(fmt L).toArray⟩) ∧ Below w.heap.size w w' := by
  obtain ⟨A, c, rfl, hl0, hcell⟩ := hL
  have HC := Lib.hid hcell; clear hcell
  obtain ⟨hs1, hs2, hs3⟩ := hs
  have HS1 := Lib.hid hs1; clear hs1
  go_enter Tryd.func7, Tryd.ntmps7
  go_wp2_with fail
  go_loopw [3, 8] (fun s i wr => ∃ k : Nat, k ≤ L.length ∧ i = .int .i64 k ∧ s = .string ⟨(fmt (L.take k)).toArray⟩ ∧ Below w.heap.size w wr) (fun _ i _ => L.length - (RowKit.intOf i).toNat)
  case atStart => exact ⟨0, Nat.zero_le _, rfl, rfl, Below.refl _ _⟩
  case round =>
    obtain ⟨k, hk, rfl, rfl, hbel⟩ := hrel
    have hle := fmt_take_le L k
    by_cases hlt : k < L.length
    · obtain ⟨ad, rfl, hx⟩ := HC.out (by omega)
      obtain ⟨hx1, dv, hx2, hx3⟩ := hx k hlt
      have hsn := fmt_take_snoc L k hlt
      obtain ⟨hv1, hv2⟩ := HS1.out L[k] (List.getElem_mem hlt)
      have hle1 := fmt_take_le L (k + 1)
      rw [hsn, List.length_append] at hle1
      obtain ⟨ex, ed, he⟩ : ∃ ex ed, (ex, ed) = L[k] := ⟨_, _, rfl⟩
      rw [← he] at hx1 hx3 hsn hv1 hv2 hle1
      dsimp only at hx1 hx3 hv1 hv2
      have HSN := Lib.hid hsn
      have hx4 := hx3.below (w1 := wr) (hbel.mono (Nat.le_refl _))
      obtain ⟨dA, dc, rfl, _, _⟩ := hx3
      have HX := Lib.hid hx4
      have hc1 := (hbel.cell (World.block_lt_of_cell? w _ hx1)).trans hx1
      have hc2 := (hbel.cell (World.block_lt_of_cell? w _ hx2)).trans hx2
      have hbs := hbel.size
      obtain ⟨hi0, hi1⟩ := hv1
      clear hsn hx4 hx hx1 hx2 he
      go_wp2_with (go_at_call 17; refine (line_any _ _ ed _ hi0 hi1 (HX.out.below ((Below.refl _ _).alloc (Nat.le_refl _) _)) hv2).mono ?_; rintro e' w1 ⟨rfl, hb1⟩)
      go_roundw
      case rel => exact ⟨k + 1, by omega, by go_num, by rw [HSN.out]; exact congrArg Value.string (by apply ByteArray.ext; simp [ByteArray.data_append]), (hbel.alloc hbs _).trans (hb1.mono (by simp; omega))⟩
      case measure => simp [RowKit.intOf]; omega
    · go_wp2_with fail
      go_ret
      exact ⟨ret_str (by rw [List.take_of_length_le (by omega)]), hbel⟩
end Go.Proofs.Scr
