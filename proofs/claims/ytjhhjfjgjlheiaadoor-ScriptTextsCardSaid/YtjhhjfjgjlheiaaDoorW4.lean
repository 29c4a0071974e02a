/- Walks: the program writes a script. -/
import Derived.Test.YtjhhjfjgjlheiaaDoorW3
import Derived.Test.YtjhhjfjgjlheiaaDoorEnv
namespace Go.Proofs.Scr
open Go Go.RowKit
open Go.Lib (itoa decDigits)

theorem grownBy_of_below {w w1 : World} (h : Below w.heap.size w w1) (row : Option Nat) : w.grownBy w1 row := ⟨h.os, h.tape, h.output, h.size, fun i hi _ => h.block i hi⟩

theorem builder_below {T e : TypeId} {B b : Nat} {bs : List Value} {w w1 : World} (h : Lib.IsBuilderF T e B b bs w) (hb : Below w.heap.size w w1) : Lib.IsBuilderF T e B b bs w1 := by
  have key : ∀ p, Lib.BuilderAtF T e B b p bs w → Lib.BuilderAtF T e B b p bs w1 := by
    rintro p ⟨hB, v, hbk, hown, hne⟩
    have hlt : b < w.heap.size := (Array.getElem?_eq_some_iff.1 hbk).1
    exact ⟨hB, v, (hb.block b hlt).trans hbk, hown.kept (grownBy_of_below hb none) (by cases v.ownBlock <;> simp), hne⟩
  rcases h with h | h
  · exact .inl (key _ h)
  · exact .inr (key _ h)

set_option maxRecDepth 100000 in
set_option maxHeartbeats 1600000 in
theorem format_any (lv : Value) (L : List (Int × List UInt8)) (w : World) (hE : Env w) (hL : CallsAt w lv L) (hs : Small L) :
    Calls Tryd.prog 6 #[lv] w fun e w' => e = .returned (.string ⟨(fmt L).toArray⟩) ∧ Below w.heap.size w w' := by
  obtain ⟨A, c, rfl, hl0, hcell⟩ := hL
  have HC := Lib.hid hcell; clear hcell
  have HE := Lib.hid hE; clear hE
  obtain ⟨hs1, hs2, hs3⟩ := hs
  have HS1 := Lib.hid hs1; clear hs1
  have hfb := Lib.fresh_isBuilder 39 5 w
  have HF := Lib.hid (Lib.IsBuilderF.of hfb)
  clear hfb
  go_enter Tryd.func6, Tryd.ntmps6
  go_wp2_with fail
  go_loopw [10] (fun i wr => ∃ k : Nat, k ≤ L.length ∧ i = .int .i64 k ∧ Lib.IsBuilderF 39 5 w.heap.size w.heap.size (Lib.byteCells (fmt (L.take k))) wr ∧ Below w.heap.size w wr ∧ w.heap.size < wr.heap.size) (fun i _ => L.length - (RowKit.intOf i).toNat)
  case atStart => exact ⟨0, Nat.zero_le _, rfl, HF.out, (Below.refl _ _).alloc (Nat.le_refl _) _, by simp⟩
  case round =>
    obtain ⟨k, hk, rfl, hbd, hbel, hzr⟩ := hrel
    have HB := Lib.hid hbd; clear hbd
    have hle := fmt_take_le L k
    by_cases hlt : k < L.length
    · obtain ⟨ad, rfl, hx⟩ := HC.out (by omega)
      obtain ⟨hx1, dv, hx2, hx3⟩ := hx k hlt
      have hsn := fmt_take_snoc L k hlt
      obtain ⟨hv1, hv2⟩ := HS1.out L[k] (List.getElem_mem hlt)
      have hle1 := fmt_take_le L (k + 1)
      rw [hsn, List.length_append] at hle1
      obtain ⟨ex, ed, he⟩ : ∃ ex ed, (ex, ed) = L[k] := ⟨_, _, rfl⟩
      rw [← he] at hx1 hx3 hsn hv1 hv2 hle1
      dsimp only at hx1 hx3 hv1 hv2
      have HSN := Lib.hid hsn
      obtain ⟨dA, dc, rfl, _, hx4⟩ := hx3
      have HX := Lib.hid hx4
      have hc1 := (hbel.cell (World.block_lt_of_cell? w _ hx1)).trans hx1
      have hc2 := (hbel.cell (World.block_lt_of_cell? w _ hx2)).trans hx2
      obtain ⟨hi0, hi1⟩ := hv1
      have hil := itoa_le ex hi0 hi1
      clear hsn hx4 hx hx1 hx2 he
      go_wp2_with (first
        | (go_at_call 14; refine (itoa_any _ _ (HE.out.below (hbel.alloc hbel.size _)) hi0 hi1).mono ?_; rintro e' w1 ⟨rfl, hb1⟩; obtain ⟨hd1, hf1⟩ := bcell hb1; have hz1 : wr.heap.size < w1.heap.size := (by have := hb1.size; simp at this; omega))
        | fail)
      have hG1 : Below w.heap.size w w1 := (hbel.alloc hbel.size _).trans (hb1.mono (by simp; omega))
      have hB1 := builder_below (HB.out.alloc (.cells #[.int .i64 ex, .slice dA ed.length dc] 36)) hb1
      have hblk : w1.heap[wr.heap.size]? = some (.cells #[.int .i64 ex, .slice dA ed.length dc] 36) := (hb1.block _ (by simp)).trans (heap_alloc_new wr _)
      refine (Tryd.Builder_WriteString_k _ _ _ _ _ hB1 (by rw [ByteArray.size_append, bsize_arr, bsize_arr]; simp [Lib.byteCells]; omega) hG1.size).mono ?_
      rintro e' w2 ⟨rfl, hB2, hb2, hk2⟩
      have hblk2 := hk2 _ _ hblk (by simp; omega) (by intro c fz h; simp at h)
      have hb3 : Below w.heap.size w w2 := hG1.trans hb2
      have hB3 : Lib.IsBuilderF 39 5 w.heap.size w.heap.size (Lib.byteCells (fmt (L.take k) ++ itoa ex ++ [32] ++ hexl (ed.take 0))) w2 := by
        refine .inr ?_
        simpa [Lib.byteCells, Lib.strCells, ByteArray.data_append, hexl] using hB2
      have HB3 := Lib.hid hB3
      have hcc : w2.cell? ⟨wr.heap.size, 1, none⟩ = some (.slice dA ed.length dc) := by rw [cell_of_row w2 wr.heap.size 1 _ _ _ hblk2]; rfl
      have hz2 : w.heap.size < w2.heap.size := by have := hb2.size; omega
      clear hB2 hB3 hB1 hblk hblk2 hk2 hb1 hb2 hG1 hc1 hc2 HB HF hz1 hzr hbel
      go_wp2_with fail
      obtain ⟨wo, rfl⟩ : ∃ wo : World, wo = wr := ⟨_, rfl⟩
      go_loopw [22] (fun i wq => ∃ j : Nat, j ≤ ed.length ∧ i = .int .i64 j ∧ Lib.IsBuilderF 39 5 w.heap.size w.heap.size (Lib.byteCells (fmt (L.take k) ++ itoa ex ++ [32] ++ hexl (ed.take j))) wq ∧ Below w.heap.size w wq ∧ w.heap.size < wq.heap.size) (fun i _ => ed.length - (RowKit.intOf i).toNat)
      case atStart => exact ⟨0, Nat.zero_le _, rfl, HB3.out, hb3, by omega⟩
      case round =>
        obtain ⟨j, hj, rfl, hbd, hbel, hzr⟩ := hrel
        have HB := Lib.hid hbd; clear hbd
        by_cases hjl : j < ed.length
        · obtain ⟨ad', rfl, hx⟩ := HX.out (by omega)
          have hsn := hexl_snoc ed j hjl
          obtain ⟨b, hb⟩ : ∃ b : UInt8, b = ed[j] := ⟨_, rfl⟩
          rw [← hb] at hsn
          obtain ⟨n, hn⟩ : ∃ n : Int, n = (b.toNat : Int) := ⟨_, rfl⟩
          have hn0 : 0 ≤ n := by omega
          have hn1 : n ≤ 255 := by have := b.toNat_lt; omega
          have hcell : wr.cell? (ad'.add j) = some (.int .u8 n) := by
            rw [hn, hb]; exact (hbel.cell (World.block_lt_of_cell? w _ (hx j hjl))).trans (hx j hjl)
          obtain ⟨a1, ha1⟩ : ∃ a1 : UInt8, a1 = hexd (b.toNat / 16) := ⟨_, rfl⟩
          obtain ⟨a2, ha2⟩ : ∃ a2 : UInt8, a2 = hexd (b.toNat % 16) := ⟨_, rfl⟩
          rw [← ha1, ← ha2] at hsn
          have e15 : bits .and .u8 n 15 = n % 16 := u8_and15 n hn0 (by omega)
          have hi1 : ∀ W : World, (Instr.index 9 (.string ⟨#[48, 49, 50, 51, 52, 53, 54, 55, 56, 57, 97, 98, 99, 100, 101, 102]⟩) (.int .u8 (n / 16))).run Tryd.prog W = .ok (.int .u8 (a1.toNat : Int)) W := fun W => by
            rw [run_hex W (n / 16) (by omega) (by omega), ha1, show (n / 16).toNat = b.toNat / 16 by omega]
          have hi2 : ∀ W : World, (Instr.index 9 (.string ⟨#[48, 49, 50, 51, 52, 53, 54, 55, 56, 57, 97, 98, 99, 100, 101, 102]⟩) (.int .u8 (n % 16))).run Tryd.prog W = .ok (.int .u8 (a2.toNat : Int)) W := fun W => by
            rw [run_hex W (n % 16) (by omega) (by omega), ha2, show (n % 16).toNat = b.toNat % 16 by omega]
          have hl2 : (fmt (L.take k) ++ itoa ex ++ [32] ++ hexl (ed.take j)).length + 2 ≤ 140737488355328 := by
            simp only [List.length_append, hexl_length, List.length_take, List.length_singleton]; omega
          have HL := Lib.hid hl2
          have HS := Lib.hid hsn
          clear hx hn hb hsn ha1 ha2 hl2
          go_wp2_with fail
          refine (Tryd.Builder_WriteByte_k _ _ _ _ _ HB.out (by have := HL.out; simp [Lib.byteCells] at this ⊢; omega) hbel.size).mono ?_
          rintro e' w3 ⟨rfl, hB3, hb4, _⟩
          have hz3 := hbel.trans hb4
          go_wp2_with fail
          refine (Tryd.Builder_WriteByte_k _ _ _ _ _ (.inr hB3) (by have := HL.out; simp [Lib.byteCells] at this ⊢; omega) hz3.size).mono ?_
          rintro e' w4 ⟨rfl, hB4, hb5, _⟩
          have hz4 := hz3.trans hb5
          have hB5 : Lib.IsBuilderF 39 5 w.heap.size w.heap.size (Lib.byteCells (fmt (L.take k) ++ itoa ex ++ [32] ++ hexl (ed.take (j + 1)))) w4 := by
            refine .inr ?_
            rw [HS.out]
            simpa [Lib.byteCells] using hB4
          have HB5 := Lib.hid hB5
          have hs4 : w.heap.size < w4.heap.size := by have := hb4.size; have := hb5.size; omega
          clear hB3 hB4 hB5 hcell hi1 hi2 e15 hb4 hb5 hz3
          go_wp2_with fail
          go_roundw
          case rel => exact ⟨j + 1, by omega, by go_num, HB5.out, hz4, hs4⟩
          case measure => simp [RowKit.intOf]; omega
        · have hl2 : (fmt (L.take k) ++ itoa ex ++ [32] ++ hexl (ed.take j)).length + 2 ≤ 140737488355328 := by
            simp only [List.length_append, hexl_length, List.length_take, List.length_singleton]; omega
          have HL := Lib.hid hl2
          clear hl2
          go_wp2_with fail
          refine (Tryd.Builder_WriteString_k _ _ _ _ _ HB.out (by have := HL.out; simp [Lib.byteCells, bsize_arr] at this ⊢; omega) hbel.size).mono ?_
          rintro e' w3 ⟨rfl, hB3, hb4, _⟩
          have hz3 := hbel.trans hb4
          have hB5 : Lib.IsBuilderF 39 5 w.heap.size w.heap.size (Lib.byteCells (fmt (L.take (k + 1)))) w3 := by
            refine .inr ?_
            rw [HSN.out]
            rw [show ed.take j = ed from List.take_of_length_le (by omega)] at hB3
            simpa [Lib.byteCells, Lib.strCells, line] using hB3
          have HB5 := Lib.hid hB5
          have hs4 : w.heap.size < w3.heap.size := by have := hb4.size; omega
          clear hB3 hB5 hb4
          go_wp2_with fail
          go_roundw
          case rel => exact ⟨k + 1, by omega, by go_num, HB5.out, hz3, hs4⟩
          case measure => simp [RowKit.intOf]; omega
    · go_wp2_with (go_at_call 16; refine (Tryd.Builder_String_any_k _ _ _ _ HB.out hbel.size).mono ?_; rintro e' w1 ⟨rfl, _, hb1, _⟩)
      go_ret
      exact ⟨ret_str (by rw [List.take_of_length_le (by omega)]), hbel.trans hb1⟩
end Go.Proofs.Scr
