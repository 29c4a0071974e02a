/- Walks: the reference writes a line. -/
import Derived.Test.YtjhhjfjgjlheiaaDoorW1
namespace Go.Proofs.Scr
open Go Go.RowKit
open Go.Lib (itoa decDigits)

theorem hexl_snoc (d : List UInt8) (k : Nat) (h : k < d.length) : hexl (d.take (k + 1)) = hexl (d.take k) ++ [hexd (d[k].toNat / 16), hexd (d[k].toNat % 16)] := by
  rw [List.take_succ_eq_append_getElem h, hexl_append]; rfl

theorem two_cells (W : World) (x y : Value) (T : TypeId) : ∀ j u, [x, y][j]? = some u → (W.alloc (.cells #[x, y] T)).cell? ((⟨W.heap.size, 0, none⟩ : Addr).add j) = some u := by
  intro j u hj
  match j, hj with
  | 0, hj => simp at hj; subst hj; simp [Addr.add]
  | 1, hj => simp at hj; subst hj; simp [Addr.add]

theorem grown_below {w wr w3 : World} {u : Value} {n : Nat} {e : TypeId} {size : Nat} {xs : List Value} {o : Obj} (hbel : Below w.heap.size w wr) (hown : OwnG wr w.heap.size e size u n xs) (hgr : (wr.alloc o).drew.grownBy w3 u.ownBlock) : Below w.heap.size w w3 ∧ wr.heap.size < w3.heap.size := by
  have h := ((hbel.alloc hbel.size o).drew).grown hgr (by have := hbel.size; simp; omega) (fun k hk => (hown.lt k hk).1)
  exact ⟨h, by have := hgr.size; simp at this; omega⟩
theorem grown_below' {w wr w3 : World} {u : Value} {n : Nat} {e : TypeId} {size : Nat} {xs : List Value} {o : Obj} (hbel : Below w.heap.size w wr) (hown : OwnG wr w.heap.size e size u n xs) (hgr : (wr.alloc o).grownBy w3 u.ownBlock) : Below w.heap.size w w3 ∧ wr.heap.size < w3.heap.size := by
  have h := (hbel.alloc hbel.size o).grown hgr (by have := hbel.size; simp; omega) (fun k hk => (hown.lt k hk).1)
  exact ⟨h, by have := hgr.size; simp at this; omega⟩

set_option maxRecDepth 100000 in
set_option maxHeartbeats 1600000 in
theorem line_any (x : Int) (dv : Value) (d : List UInt8) (w : World) (h0 : -9223372036854775808 ≤ x) (h1 : x ≤ 9223372036854775807) (hd : BytesAt w dv d) (hl : d.length ≤ 1000000) :
    Calls Tryd.prog 17 #[.agg #[.int .i64 x, dv]] w fun e w' => e = .returned (.string ⟨(line (x, d)).toArray⟩) ∧ Below w.heap.size w w' := by
  have hd0 := hd
  obtain ⟨A, c, rfl, hl0, hcell⟩ := hd
  have HB := Lib.hid hd0; clear hd0
  have HC := Lib.hid hcell; clear hcell
  have hlen : (itoa x).length ≤ 21 := itoa_le x h0 h1
  go_enter Tryd.func17, Tryd.ntmps17
  go_wp2_with (first | (go_at_call 22; refine (decimal_any _ _ h0 h1).mono ?_; rintro e w1 ⟨rfl, hb1⟩; obtain ⟨hc1, hf1⟩ := bcell hb1; have hz1 : w.heap.size < w1.heap.size := (by have := hb1.size; simp at this; omega)) | (refine wpList_s2b rfl (.tmp 9) rfl _ rfl (by rw [ByteArray.size_append, bsize_arr, bsize_arr]; simp [maxLen]; omega) ?_; intro v W hown hb2 hz2; obtain ⟨hc2, hf2⟩ := bcell hb2))
  have hown' : OwnB W w.heap.size v (itoa x ++ [32] ++ hexl (d.take 0)) := by
    have := OwnG.low hown (Nat.le_of_lt hz1)
    unfold OwnB
    simpa [hexl, ByteArray.data_append] using this
  have hbel : Below w.heap.size w W := (((Below.refl _ _).alloc (Nat.le_refl _) _).trans (hb1.mono (by simp))).trans (hb2.mono (by omega))
  have hzW : w.heap.size < W.heap.size := by omega
  clear hown hb1 hb2 hc1 hc2 hf1 hf2
  go_loopw [3, 14] (fun s i wr => ∃ k : Nat, k ≤ d.length ∧ i = .int .i64 k ∧ OwnB wr w.heap.size s (itoa x ++ [32] ++ hexl (d.take k)) ∧ Below w.heap.size w wr ∧ w.heap.size < wr.heap.size) (fun _ i _ => d.length - (RowKit.intOf i).toNat)
  case atStart => exact ⟨0, Nat.zero_le _, rfl, hown', hbel, hzW⟩
  case round =>
    clear hown' hbel hzW
    obtain ⟨k, hk, rfl, hown, hbel, hzr⟩ := hrel
    have HO := Lib.hid hown; clear hown
    have hlt2 := List.length_take_le k d
    have hl2 : (itoa x ++ [32] ++ hexl (d.take k)).length ≤ 3000000 := by
      simp only [List.length_append, hexl_length, List.length_take, List.length_singleton]; omega
    have HL := Lib.hid hl2; clear hl2 hlt2
    by_cases hlt : k < d.length
    · obtain ⟨ad, rfl, hx⟩ := HC.out (by omega)
      have hsn := hexl_snoc d k hlt
      obtain ⟨b, hb⟩ : ∃ b : UInt8, b = d[k] := ⟨_, rfl⟩
      rw [← hb] at hsn
      obtain ⟨n, hn⟩ : ∃ n : Int, n = (b.toNat : Int) := ⟨_, rfl⟩
      have hn0 : 0 ≤ n := by omega
      have hn1 : n ≤ 255 := by have := b.toNat_lt; omega
      have hcell : wr.cell? (ad.add k) = some (.int .u8 n) := by
        rw [hn, hb]; exact (hbel.cell (World.block_lt_of_cell? w _ (hx k hlt))).trans (hx k hlt)
      obtain ⟨a1, ha1⟩ : ∃ a1 : UInt8, a1 = hexd (b.toNat / 16) := ⟨_, rfl⟩
      obtain ⟨a2, ha2⟩ : ∃ a2 : UInt8, a2 = hexd (b.toNat % 16) := ⟨_, rfl⟩
      rw [← ha1, ← ha2] at hsn
      have e15 : bits .and .u8 n 15 = n % 16 := u8_and15 n hn0 (by omega)
      have hi1 : ∀ W : World, (Instr.index 9 (.string ⟨#[48, 49, 50, 51, 52, 53, 54, 55, 56, 57, 97, 98, 99, 100, 101, 102]⟩) (.int .u8 (n / 16))).run Tryd.prog W = .ok (.int .u8 (a1.toNat : Int)) W := fun W => by
        rw [run_hex W (n / 16) (by omega) (by omega), ha1, show (n / 16).toNat = b.toNat / 16 by omega]
      have hi2 : ∀ W : World, (Instr.index 9 (.string ⟨#[48, 49, 50, 51, 52, 53, 54, 55, 56, 57, 97, 98, 99, 100, 101, 102]⟩) (.int .u8 (n % 16))).run Tryd.prog W = .ok (.int .u8 (a2.toNat : Int)) W := fun W => by
        rw [run_hex W (n % 16) (by omega) (by omega), ha2, show (n % 16).toNat = b.toNat % 16 by omega]
      have HS := Lib.hid hsn
      clear hx hn hb hsn ha1 ha2
      go_wp2_with fail
      go_region_law ((refine step_append_B (m := [a1, a2]) rfl (.tmp 18) (.tmp 25) (by rfl) (by rfl) ((HO.out.drew).alloc _) (by rfl) (fun j hj => two_cells _ _ _ _ j _ (by match j, hj with | 0, _ => rfl | 1, _ => rfl)) (by have := HL.out; simp only [List.length_cons, List.length_nil]; omega) (by simp; omega) ?_; intro v' w3 hown3 hgr3))
      all_goals (
        have hG := grown_below hbel HO.out hgr3
        have HO3 := Lib.hid hown3
        clear hown3 hgr3 hcell hi1 hi2 e15
        go_wp2_with fail
        go_roundw
        case rel => exact ⟨k + 1, by omega, by go_num, by rw [HS.out, ← List.append_assoc]; exact HO3.out, hG.1, by have := hG.2; omega⟩
        case measure => simp [RowKit.intOf]; omega)
    · go_wp2_with (refine wpList_append_B (m := [10]) rfl (.tmp 28) (.tmp 29) (by rfl) (by rfl) (OwnG.alloc HO.out _) (by rfl) (fun j hj => by have : j = 0 := (by simpa using hj); subst this; simp [Addr.add]) (by have := HL.out; simp only [List.length_cons, List.length_nil]; omega) (by simp; omega) ?_; intro v' w3 hown3 hgr3)
      have hG := grown_below' hbel HO.out hgr3
      rw [run_b2s w3 (hown3.bytesAt (by have := HL.out; simp only [List.length_append, List.length_singleton] at this ⊢; omega))]
      go_wp2_with fail
      go_ret
      exact ⟨ret_str (by rw [List.take_of_length_le (by omega)]; simp [line]), hG.1⟩
end Go.Proofs.Scr
