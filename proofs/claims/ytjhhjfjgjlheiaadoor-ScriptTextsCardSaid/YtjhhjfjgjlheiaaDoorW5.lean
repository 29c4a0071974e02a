/- Walks: equality of scripts, Mod. -/
import Derived.Test.YtjhhjfjgjlheiaaDoorW4
namespace Go.Proofs.Scr
open Go Go.RowKit
open Go.Lib (itoa decDigits)

theorem run_b2s_n (w : World) {v : Value} {d : List UInt8} (h : BytesAt w v d) (n : Nat) : (convert 25 9 v).run Tryd.prog (w.drewN n) = .ok (.string ⟨d.toArray⟩) (w.drewN n) :=
  run_b2s _ (h.below (below_drewN (Below.refl _ _) n))

theorem ret_true {p : Prop} [Decidable p] (h : p) : Ending.returned (.bool true) = .returned (.bool (decide p)) := by rw [decide_eq_true h]
theorem ret_false {p : Prop} [Decidable p] (h : ¬ p) : Ending.returned (.bool false) = .returned (.bool (decide p)) := by rw [decide_eq_false h]

set_option maxRecDepth 100000 in
set_option maxHeartbeats 1600000 in
theorem same_any (v1 v2 : Value) (L1 L2 : List (Int × List UInt8)) (w : World) (h1 : CallsAt w v1 L1) (h2 : CallsAt w v2 L2) :
    Calls Tryd.prog 11 #[v1, v2] w fun e w' => e = .returned (.bool (decide (L1 = L2))) ∧ Below w.heap.size w w' := by
  obtain ⟨A1, c1, rfl, hl1, hcell1⟩ := h1
  have HC1 := Lib.hid hcell1; clear hcell1
  obtain ⟨A2, c2, rfl, hl2, hcell2⟩ := h2
  have HC2 := Lib.hid hcell2; clear hcell2
  by_cases hlen : L1.length = L2.length
  · have hq : ((L1.length : Int) != L2.length) = false := by rw [bne_eq_false_iff_eq]; omega
    have HQ := Lib.hid hlen
    have hle : L1.length ≤ L2.length := by omega
    clear hlen
    go_enter Tryd.func11, Tryd.ntmps11
    go_wp2_with fail
    go_loopw [13] (fun i wr => ∃ k : Nat, k ≤ L1.length ∧ i = .int .i64 k ∧ L1.take k = L2.take k ∧ Below w.heap.size w wr) (fun i _ => L1.length - (RowKit.intOf i).toNat)
    case atStart => exact ⟨0, Nat.zero_le _, rfl, rfl, Below.refl _ _⟩
    case round =>
      obtain ⟨k, hk, rfl, heq, hbel⟩ := hrel
      have HEQ := Lib.hid heq; clear heq
      by_cases hlt : k < L1.length
      · obtain ⟨ad1, rfl, hx1⟩ := HC1.out (by omega)
        obtain ⟨ad2, rfl, hx2⟩ := HC2.out (by omega)
        obtain ⟨hy1, d1, hy2, hy3⟩ := hx1 k hlt
        obtain ⟨hz1, d2, hz2, hz3⟩ := hx2 k (by omega)
        have p1 := (hbel.cell (World.block_lt_of_cell? w _ hy1)).trans hy1
        have p2 := (hbel.cell (World.block_lt_of_cell? w _ hy2)).trans hy2
        have p3 := (hbel.cell (World.block_lt_of_cell? w _ hz1)).trans hz1
        have p4 := (hbel.cell (World.block_lt_of_cell? w _ hz2)).trans hz2
        have r1 := run_b2s_n wr (hy3.below hbel)
        have r2 := run_b2s_n wr (hz3.below hbel)
        have b1 : (0 : Int) ≤ (k : Int) := by omega
        have b2 : (k : Int) < (L1.length : Int) := by omega
        have b3 : (k : Int) < (L2.length : Int) := by omega
        obtain ⟨x1, e1, he1⟩ : ∃ x e, (x, e) = L1[k] := ⟨_, _, rfl⟩
        obtain ⟨x2, e2, he2⟩ : ∃ x e, (x, e) = L2[k] := ⟨_, _, rfl⟩
        rw [← he1] at p1 r1
        rw [← he2] at p3 r2
        dsimp only at p1 p3 r1 r2
        have HE1 := Lib.hid he1
        have HE2 := Lib.hid he2
        clear hx1 hx2 hy1 hy2 hy3 hz1 hz2 hz3 he1 he2
        by_cases hx : x1 = x2
        · have hn : ((x1 : Int) != x2) = false := by simpa using hx
          go_wp2_with fail
          go_quiet (fail)
          go_wp2_with fail
          · have hne : (!e1 == e2) = true := by assumption
            go_ret
            exact ⟨ret_false (fun h => by
              have a := HE1.out; have b := HE2.out; subst h; rw [← a] at b
              rw [(Prod.mk.inj b).2] at hne; simp at hne), below_drewN hbel _⟩
          · have hne : (!e1 == e2) = false := by assumption
            go_roundw
            case rel =>
              refine ⟨k + 1, by omega, by go_num, ?_, below_drewN hbel _⟩
              rw [List.take_succ_eq_append_getElem hlt, List.take_succ_eq_append_getElem (show k < L2.length by omega), HEQ.out, ← HE1.out, ← HE2.out, hx, show e1 = e2 by simpa using hne]
            case measure => simp [RowKit.intOf]; omega
        · have hn : ((x1 : Int) != x2) = true := by simpa using hx
          go_wp2_with fail
          go_quiet (fail)
          go_wp2_with fail
          go_ret
          exact ⟨ret_false (fun h => hx (by have a := HE1.out; have b := HE2.out; subst h; rw [← a] at b; exact (Prod.mk.inj b).1.symm)), below_drewN hbel _⟩
      · go_wp2_with fail
        go_ret
        refine ⟨ret_true ?_, hbel⟩
        have h := HEQ.out
        have hh := HQ.out
        rwa [List.take_of_length_le (by omega), List.take_of_length_le (by omega)] at h
  · have hq : ((L1.length : Int) != L2.length) = true := by rw [bne_iff_ne]; omega
    go_enter Tryd.func11, Tryd.ntmps11
    go_wp2_with fail
    go_ret
    exact ⟨ret_false (fun h => hlen (by rw [h])), Below.refl _ _⟩

/-- the least non-negative rest, as 'Mod' gives it -/
def modOf (x n : Int) : Int := if n < 1 then 0 else x.tmod n % n
theorem modOf_bd (x n : Int) (h : 1 ≤ n) : 0 ≤ modOf x n ∧ modOf x n < n := by
  unfold modOf
  rw [if_neg (by omega)]
  exact ⟨Int.emod_nonneg _ (by omega), Int.emod_lt_of_pos _ (by omega)⟩
theorem modOf_zero (x n : Int) (h : n < 1) : modOf x n = 0 := by unfold modOf; rw [if_pos h]

set_option maxRecDepth 100000 in
set_option maxHeartbeats 400000 in
theorem mod_any (x n : Int) (w : World) (hn : n ≤ 4611686018427387904) : Calls Tryd.prog 8 #[.int .i64 x, .int .i64 n] w fun e w' => e = .returned (.int .i64 (modOf x n)) ∧ w' = w := by
  by_cases h : n < 1
  · have hd : decide (n < 1) = true := by simpa using h
    have hz := Lib.hid (modOf_zero x n h)
    go_enter Tryd.func8, Tryd.ntmps8
    go_wp2_with fail
    go_ret
    exact ⟨by rw [hz.out]; rfl, rfl⟩
  · have hd : decide (n < 1) = false := by simpa using h
    have hn0 : ¬ n = 0 := by omega
    have h1 := Int.tmod_lt_of_pos x (show 0 < n by omega)
    have h2 : -n < x.tmod n := by have := Int.lt_tmod_of_pos x (show 0 < n by omega); omega
    go_enter Tryd.func8, Tryd.ntmps8
    go_wp2_with fail
    go_ret
    exact ⟨by unfold modOf; rw [if_neg (by omega)]; rfl, rfl⟩
end Go.Proofs.Scr
