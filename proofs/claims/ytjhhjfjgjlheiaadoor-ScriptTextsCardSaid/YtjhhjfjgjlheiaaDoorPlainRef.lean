/- The plain law of the reference's loose reader of a line: at a canonical line it gives the call back; so one step of it agrees with one step of the program. No program in this text. -/
import Derived.Test.YtjhhjfjgjlheiaaDoorPlain
import Derived.RowKit
namespace Go.Proofs.Scr
open Go Go.Lib Go.RowKit

/-- the reference's value of a digit -/
def rhex (c : UInt8) : Nat := if 48 ≤ c.toNat ∧ c.toNat ≤ 57 then c.toNat - 48 else if 97 ≤ c.toNat ∧ c.toNat ≤ 102 then c.toNat - 87 else 0
def rstep (x : Bool × Int) (b : UInt8) : Bool × Int := if b = 45 then (true, x.2) else (x.1, wrap64 (wrap64 (10 * x.2) - (rhex b : Int)))
def rnum (l : List UInt8) : Bool × Int := l.foldl rstep (false, 0)
def rbytes : List UInt8 → List UInt8
  | a :: b :: r => UInt8.ofNat (16 * rhex a + rhex b) :: rbytes r
  | _ => []
def rctl (x : Bool × Int) : Int := if x.1 then x.2 else wrap64 (-x.2)
/-- the bytes ahead of the first space -/
def sp (s : List UInt8) : Nat := (s.takeWhile (· != 32)).length
def rcall (s : List UInt8) : Int × List UInt8 := (rctl (rnum (s.take (sp s))), rbytes (s.drop (sp s + 1)))

theorem rhex_lt (c : UInt8) : rhex c < 16 := by unfold rhex; split <;> (try split) <;> omega
theorem rhex_hexd (n : Nat) (h : n < 16) : rhex (hexd n) = n := by
  unfold rhex
  rw [hexd_toNat n h]
  by_cases h1 : n < 10
  · rw [if_pos h1, if_pos (by omega)]; omega
  · rw [if_neg h1, if_neg (by omega), if_pos (by omega)]; omega

theorem rbytes_hexl : ∀ d : List UInt8, rbytes (hexl d ++ [10]) = d
  | [] => rfl
  | b :: r => by
    have hb : b.toNat < 256 := b.toNat_lt
    simp only [hexl, List.cons_append, rbytes]
    rw [rhex_hexd _ (by omega), rhex_hexd _ (by omega), rbytes_hexl r]
    congr 1
    have : 16 * (b.toNat / 16) + b.toNat % 16 = b.toNat := by omega
    rw [this]; simp

theorem wrap64_id (n : Int) (h : isInt n) : wrap64 n = n := by
  obtain ⟨h0, h1⟩ := h
  unfold wrap64; omega
theorem wrap64_int (n : Int) : isInt (wrap64 n) := by unfold isInt wrap64; omega

theorem rctl_int (x : Bool × Int) (h : isInt x.2) : isInt (rctl x) := by
  unfold rctl; split
  · exact h
  · exact wrap64_int _
theorem rstep_int (x : Bool × Int) (b : UInt8) (h : isInt x.2) : isInt (rstep x b).2 := by
  unfold rstep; split
  · exact h
  · exact wrap64_int _
theorem rfold_int : ∀ (l : List UInt8) (x : Bool × Int), isInt x.2 → isInt (l.foldl rstep x).2
  | [], _, h => h
  | b :: l, x, h => rfold_int l _ (rstep_int x b h)
theorem rnum_int (l : List UInt8) : isInt (rnum l).2 := rfold_int l _ (by unfold isInt; omega)
theorem rcall_int (s : List UInt8) : isInt (rcall s).1 := rctl_int _ (rnum_int _)

/-- decimal digits behind a number: the fold goes down without a wrap -/
theorem rfold_digits : ∀ (l : List UInt8) (acc n : Nat) (m : Bool), decFrom acc l = some n → n ≤ 9223372036854775808 → l.foldl rstep (m, -(acc : Int)) = (m, -(n : Int))
  | [], acc, n, m, h, _ => by simp only [decFrom, Option.some.injEq] at h; simp [h]
  | b :: l, acc, n, m, h, hn => by
    simp only [decFrom] at h
    cases hd : digitVal b with
    | none => rw [hd] at h; simp at h
    | some d =>
      rw [hd] at h
      simp only at h
      obtain ⟨h1, h2, h3⟩ := digitVal_eq hd
      have hge : acc * 10 + d ≤ n := by
        clear hd hn h1 h2 h3
        generalize acc * 10 + d = x at h
        induction l generalizing x with
        | nil => simp only [decFrom, Option.some.injEq] at h; omega
        | cons c r ih =>
          simp only [decFrom] at h
          cases hc : digitVal c with
          | none => rw [hc] at h; simp at h
          | some e =>
            rw [hc] at h
            have := ih _ h
            omega
      simp only [List.foldl_cons]
      have hne : ¬ b = 45 := fun e => by rw [e] at h1; exact absurd h1 (by decide)
      have hr : rhex b = d := by unfold rhex; rw [if_pos ⟨h1, h2⟩, h3]
      have hs : rstep (m, -(acc : Int)) b = (m, -((acc * 10 + d : Nat) : Int)) := by
        unfold rstep
        rw [if_neg hne, hr]
        simp only
        rw [wrap64_id (10 * -(acc : Int)) (by unfold isInt; omega), wrap64_id _ (by unfold isInt; omega)]
        congr 1; omega
      rw [hs]
      exact rfold_digits l _ n m h hn

theorem rctl_itoa (n : Int) (h : isInt n) : rctl (rnum (itoa n)) = n := by
  obtain ⟨h0, h1⟩ := h
  unfold itoa rnum
  split
  · rename_i hn
    simp only [List.foldl_cons]
    have e : rstep (false, 0) 45 = (true, -((0 : Nat) : Int)) := by rfl
    rw [e, rfold_digits _ 0 n.natAbs true (decFrom_decDigits _) (by omega)]
    unfold rctl; simp only [if_true]; omega
  · rename_i hn
    have e : ((false, 0) : Bool × Int) = (false, -((0 : Nat) : Int)) := by rfl
    rw [e, rfold_digits _ 0 n.toNat false (decFrom_decDigits _) (by omega)]
    unfold rctl
    rw [if_neg (by simp)]
    rw [wrap64_id _ (by unfold isInt; omega)]; omega

theorem sp_append (a r : List UInt8) (h : (32 : UInt8) ∉ a) : sp (a ++ 32 :: r) = a.length := by
  unfold sp
  induction a with
  | nil => simp
  | cons b a ih =>
    have hb : ¬ b = 32 := fun e => h (by simp [e])
    have ha : (32 : UInt8) ∉ a := fun e => h (by simp [e])
    simp only [List.cons_append]
    rw [List.takeWhile_cons, if_pos (by simpa using hb)]
    simp [ih ha]

theorem rcall_line (c : Int × List UInt8) (h : isInt c.1) : rcall (line c) = c := by
  unfold rcall line
  rw [sp_append _ _ (itoa_no _ _ (by decide))]
  rw [List.take_append_of_le_length (Nat.le_refl _), List.take_length, rctl_itoa _ h]
  have : (itoa c.1 ++ 32 :: (hexl c.2 ++ [10])).drop ((itoa c.1).length + 1) = hexl c.2 ++ [10] := by
    rw [← List.drop_drop, List.drop_left]
    rfl
  rw [this, rbytes_hexl]

/-! ### one step of the reference -/
theorem ref_ok {s : List UInt8} {k : Nat} (h : line (rcall (s.take (k + 1))) = s.take (k + 1)) : s = line (rcall (s.take (k + 1))) ++ s.drop (k + 1) ∧ isInt (rcall (s.take (k + 1))).1 :=
  ⟨by rw [h, List.take_append_drop], rcall_int _⟩

theorem ref_bad {s : List UInt8} {k : Nat} (hk : ∀ j, j < k → s[j]? ≠ some 10) (hend : s.length ≤ k ∨ s[k]? = some 10)
    (h : line (rcall (s.take (k + 1))) ≠ s.take (k + 1)) : NoLine s := by
  intro c r hi e
  have hnl : s[(head c).length]? = some 10 := by
    rw [e, line_head, List.append_assoc, List.getElem?_append_right (Nat.le_refl _)]
    simp
  have h1 : ¬ (head c).length < k := fun hlt => hk _ hlt hnl
  have h2 : ¬ k < (head c).length := by
    intro hlt
    rcases hend with h' | h'
    · have : (head c).length < s.length := by
        rw [e, line_head]; simp
      omega
    · have hm : s[k]? = (head c)[k]? := by
        rw [e, line_head, List.append_assoc, List.getElem?_append_left hlt]
      rw [hm] at h'
      exact head_no c (List.mem_of_getElem? h')
  have h3 : k + 1 = (line c).length := by rw [line_head]; simp; omega
  have h4 : s.take (k + 1) = line c := by rw [h3, e, List.take_left]
  exact h (by rw [h4, rcall_line c hi])

end Go.Proofs.Scr
