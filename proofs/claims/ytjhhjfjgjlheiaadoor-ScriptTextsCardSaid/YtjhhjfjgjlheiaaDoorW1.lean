/- Walks: the decimal digits of the reference. -/
import Derived.Test.YtjhhjfjgjlheiaaDoorMem
namespace Go.Proofs.Scr
open Go Go.Lib Go.RowKit

theorem one_bytes (w : World) (n : Int) (b : UInt8) (h : n = b.toNat) (T : TypeId) (c : Nat) : BytesAt (w.alloc (.cells #[.int .u8 n] T)) (.slice (some ⟨w.heap.size, 0, none⟩) 1 c) [b] := by
  refine ⟨_, c, rfl, by simp, fun _ => ⟨_, rfl, fun j hj => ?_⟩⟩
  have hj0 : j = 0 := by simpa using hj
  subst hj0
  simp [Addr.add, h]

theorem decDigits_le (k : Nat) : ∀ u, u < 10 ^ (k + 1) → (decDigits u).length ≤ k + 1 := by
  induction k with
  | zero => intro u h; rw [decDigits, dif_pos (by omega)]; simp
  | succ k ih =>
    intro u h
    by_cases h1 : u < 10
    · rw [decDigits, dif_pos h1]; simp
    · rw [decDigits, dif_neg h1, List.length_append]
      have := ih (u / 10) (by rw [Nat.pow_succ] at h; omega)
      simp; omega
theorem decDigits_le20 (u : Nat) (h : u < 18446744073709551616) : (decDigits u).length ≤ 20 :=
  decDigits_le 19 u (Nat.lt_trans h (by decide))

theorem itoa_le (x : Int) (h0 : -9223372036854775808 ≤ x) (h1 : x ≤ 9223372036854775807) : (itoa x).length ≤ 21 := by
  unfold itoa
  split
  · have := decDigits_le20 x.natAbs (by omega)
    simp; omega
  · have := decDigits_le20 x.toNat (by omega)
    omega

theorem dig_ch (x : Int) (h0 : 0 ≤ x) (h1 : x < 10) : ∃ b : UInt8, b = UInt8.ofNat (48 + x.toNat) ∧ 48 + x = (b.toNat : Int) :=
  ⟨_, rfl, by rw [u8_ofNat_toNat _ (by omega)]; omega⟩

theorem digits_end (x : Int) (h : 10 ≤ x) : Ending.returned (.string (⟨(decDigits (x / 10).toNat).toArray⟩ ++ ⟨#[UInt8.ofNat (48 + (x % 10).toNat)]⟩)) = .returned (.string ⟨(decDigits x.toNat).toArray⟩) := by
  congr 2
  rw [decDigits.eq_1 x.toNat, dif_neg (by omega), show x.toNat / 10 = (x / 10).toNat by omega, show x.toNat % 10 = (x % 10).toNat by omega]
  apply ByteArray.ext
  simp [ByteArray.data_append]

set_option maxRecDepth 100000 in
set_option maxHeartbeats 400000 in
theorem digits_small (x : Int) (w : World) (h0 : 0 ≤ x) (hn : x < 10) : Calls Tryd.prog 30 #[.int .u64 x] w fun e w' => e = .returned (.string ⟨(decDigits x.toNat).toArray⟩) ∧ Below w.heap.size w w' := by
  have hd : decide (x < 10) = true := by simp; omega
  obtain ⟨b, hb, hbx⟩ := dig_ch x h0 hn
  have HB := Lib.hid hb; clear hb
  have HX := Lib.hid hbx; clear hbx
  go_enter Tryd.func30, Tryd.ntmps30
  go_wp2_with fail
  rw [run_b2s _ (one_bytes w (48 + x) b HX.out 5 1)]
  go_wp2_with fail
  go_ret
  exact ⟨ret_str (by rw [decDigits_one (by omega), HB.out]), (Below.refl _ _).alloc (Nat.le_refl _) _⟩
set_option maxRecDepth 100000 in
set_option maxHeartbeats 400000 in
theorem digits_any (k : Nat) : ∀ (x : Int) (w : World), 0 ≤ x → x ≤ k → x < 18446744073709551616 → Calls Tryd.prog 30 #[.int .u64 x] w fun e w' => e = .returned (.string ⟨(decDigits x.toNat).toArray⟩) ∧ Below w.heap.size w w' := by
  induction k with
  | zero => intro x w h0 hk _; exact digits_small x w h0 (by omega)
  | succ k ih =>
    intro x w h0 hk hN
    by_cases hn : x < 10
    · exact digits_small x w h0 hn
    · have hd : decide (x < 10) = false := by simp; omega
      have IH := Lib.hid ih
      clear ih
      obtain ⟨b, hb, hbx⟩ := dig_ch (x % 10) (by omega) (by omega)
      have HB := Lib.hid hb; clear hb
      have e1 : x.tdiv 10 = x / 10 := Int.tdiv_eq_ediv_of_nonneg h0
      have e2 : x.tmod 10 = x % 10 := Int.tmod_eq_emod_of_nonneg h0
      have e3 : IntKind.u64.wrap (x / 10) = x / 10 := IntWalk.u64_in _ ⟨by omega, by omega⟩
      have e4 : IntKind.u64.wrap (48 + x % 10) = 48 + x % 10 := IntWalk.u64_in _ ⟨by omega, by omega⟩
      have e5 : IntKind.u8.wrap (48 + x % 10) = 48 + x % 10 := IntWalk.u8_in _ ⟨by omega, by omega⟩
      have hlen : (decDigits (x / 10).toNat).length ≤ 20 := decDigits_le20 _ (by omega)
      have hcv : ∀ (W : World) (ad : Addr) (c : Nat), W.cell? ad = some (.int .u8 (48 + x % 10)) → (convert 25 9 (.slice (some ad) 1 c)).run Tryd.prog W = .ok (.string ⟨#[b]⟩) W := by
        intro W ad c h
        refine run_b2s W (d := [b]) ⟨_, c, rfl, by simp, fun _ => ⟨ad, rfl, fun j hj => ?_⟩⟩
        have hj0 : j = 0 := by simpa using hj
        subst hj0
        simpa [Addr.add, ← hbx] using h
      clear hbx
      go_enter Tryd.func30, Tryd.ntmps30
      go_wp2_with fail
      go_region_with (go_at_call 30; refine (IH.out _ _ (by omega) (by omega) (by omega)).mono ?_; rintro e w1 ⟨rfl, hb1⟩; obtain ⟨hc1, hf1⟩ := bcell hb1)
      all_goals (go_wp2_with fail; go_ret)
      all_goals refine ⟨?_, ?_⟩
      all_goals first
        | (rw [HB.out]; exact digits_end x (by omega))
        | exact ((Below.refl _ _).drew.trans hb1).alloc hb1.size _
        | exact ((Below.refl _ _).alloc (Nat.le_refl _) _).drew.trans (hb1.mono (by simp))
theorem minus_end (x : Int) (h : x < 0) : Ending.returned (.string (⟨#[45]⟩ ++ ⟨(decDigits (-(x + 1) + 1).toNat).toArray⟩)) = .returned (.string ⟨(itoa x).toArray⟩) := by
  congr 2
  unfold itoa
  rw [if_pos h, show (-(x + 1) + 1).toNat = x.natAbs by omega]
  apply ByteArray.ext
  simp [ByteArray.data_append]

set_option maxRecDepth 100000 in
set_option maxHeartbeats 400000 in
theorem decimal_any (x : Int) (w : World) (h0 : -9223372036854775808 ≤ x) (h1 : x ≤ 9223372036854775807) : Calls Tryd.prog 22 #[.int .i64 x] w fun e w' => e = .returned (.string ⟨(itoa x).toArray⟩) ∧ Below w.heap.size w w' := by
  by_cases hn : x < 0
  · have hd : decide (x < 0) = true := by simpa using hn
    have hlen : (decDigits (-(x + 1) + 1).toNat).length ≤ 20 := decDigits_le20 _ (by omega)
    go_enter Tryd.func22, Tryd.ntmps22
    go_wp2_with (go_at_call 30; refine (digits_any 18446744073709551616 _ _ (by omega) (by omega) (by omega)).mono ?_; rintro e w1 ⟨rfl, hb1⟩)
    go_ret
    exact ⟨minus_end x hn, hb1⟩
  · have hd : decide (x < 0) = false := by simpa using hn
    go_enter Tryd.func22, Tryd.ntmps22
    go_wp2_with (go_at_call 30; refine (digits_any 18446744073709551616 _ _ (by omega) (by omega) (by omega)).mono ?_; rintro e w1 ⟨rfl, hb1⟩)
    go_ret
    exact ⟨ret_str (by unfold itoa; rw [if_neg (by omega)]), hb1⟩
end Go.Proofs.Scr
