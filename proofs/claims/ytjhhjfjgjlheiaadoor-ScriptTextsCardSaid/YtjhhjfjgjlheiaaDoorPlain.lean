/- The plain law of scripts: texts of calls as lists of bytes; unique reading of a line; what the loose reader of the reference gives at a canonical line. No program in this text. -/
import Derived.Lib.ItoaNum
import Derived.Lib.AtoiTie
import Derived.Lib.IndexMore
namespace Go.Proofs.Scr
open Go Go.Lib

/-- a hexadecimal digit -/
def hexd (n : Nat) : UInt8 := if n < 10 then UInt8.ofNat (48 + n) else UInt8.ofNat (87 + n)
def hexl : List UInt8 → List UInt8
  | [] => []
  | b :: r => hexd (b.toNat / 16) :: hexd (b.toNat % 16) :: hexl r
def line (c : Int × List UInt8) : List UInt8 := itoa c.1 ++ 32 :: (hexl c.2 ++ [10])
def fmt : List (Int × List UInt8) → List UInt8
  | [] => []
  | c :: r => line c ++ fmt r
def isInt (n : Int) : Prop := -9223372036854775808 ≤ n ∧ n ≤ 9223372036854775807

theorem fmt_append (a b : List (Int × List UInt8)) : fmt (a ++ b) = fmt a ++ fmt b := by
  induction a with
  | nil => rfl
  | cons c r ih => simp [fmt, ih]

theorem hexl_append (a b : List UInt8) : hexl (a ++ b) = hexl a ++ hexl b := by
  induction a with
  | nil => rfl
  | cons c r ih => simp [hexl, ih]

theorem hexl_length (a : List UInt8) : (hexl a).length = 2 * a.length := by
  induction a with
  | nil => rfl
  | cons c r ih => simp [hexl, ih]; omega

/-! ### digits -/
theorem u8_ofNat_toNat (n : Nat) (h : n < 256) : (UInt8.ofNat n).toNat = n := by simp; omega

theorem hexd_toNat (n : Nat) (h : n < 16) : (hexd n).toNat = if n < 10 then 48 + n else 87 + n := by
  unfold hexd
  split <;> rw [u8_ofNat_toNat _ (by omega)]

theorem decDigits_digit (u : Nat) : ∀ b ∈ decDigits u, 48 ≤ b.toNat ∧ b.toNat ≤ 57 := by
  induction u using Nat.strongRecOn with
  | _ u ih =>
    rw [decDigits]
    split
    · intro b hb
      simp only [List.mem_singleton] at hb
      subst hb; rw [u8_ofNat_toNat _ (by omega)]; omega
    · intro b hb
      rcases List.mem_append.1 hb with h | h
      · exact ih (u / 10) (by omega) b h
      · simp only [List.mem_singleton] at h
        subst h; rw [u8_ofNat_toNat _ (by omega)]; omega

theorem decDigits_ne (u : Nat) : decDigits u ≠ [] := by
  intro h
  have := decDigits_length u
  rw [h] at this
  have h1 := nDigits_pos u
  simp at this; omega

/-- the bytes of a number: a minus or a digit -/
theorem itoa_byte (n : Int) : ∀ b ∈ itoa n, b.toNat = 45 ∨ (48 ≤ b.toNat ∧ b.toNat ≤ 57) := by
  intro b hb
  unfold itoa at hb
  split at hb
  · rcases List.mem_cons.1 hb with h | h
    · subst h; left; rfl
    · right; exact decDigits_digit _ b h
  · right; exact decDigits_digit _ b hb

theorem itoa_ne (n : Int) : itoa n ≠ [] := by
  unfold itoa
  split
  · simp
  · exact decDigits_ne _

theorem hexl_byte (d : List UInt8) : ∀ b ∈ hexl d, (48 ≤ b.toNat ∧ b.toNat ≤ 57) ∨ (97 ≤ b.toNat ∧ b.toNat ≤ 102) := by
  induction d with
  | nil => intro b hb; simp [hexl] at hb
  | cons c r ih =>
    intro b hb
    have hc : c.toNat < 256 := c.toNat_lt
    simp only [hexl, List.mem_cons] at hb
    rcases hb with h | h | h
    · subst h; rw [hexd_toNat _ (by omega)]; split <;> omega
    · subst h; rw [hexd_toNat _ (by omega)]; split <;> omega
    · exact ih b h

/-! ### cutting at a byte that does not occur before -/
theorem index_single : ∀ (a : List UInt8) (x : UInt8) (r : List UInt8), x ∉ a → index (a ++ x :: r) [x] = a.length
  | [], x, r, _ => by simp [index, List.isPrefixOf]
  | b :: a, x, r, h => by
    have hb : ¬ x = b := fun e => h (by simp [e])
    have ha : x ∉ a := fun e => h (by simp [e])
    have ih := index_single a x r ha
    simp only [List.cons_append]
    unfold index
    rw [ih]
    have h1 : List.isPrefixOf [x] (b :: (a ++ x :: r)) = false := by
      simp [List.isPrefixOf]; exact hb
    rw [h1]
    have h2 : ((a.length : Int) == -1) = false := by rw [beq_eq_false_iff_ne]; omega
    simp [h2]

theorem index_single_none : ∀ (a : List UInt8) (x : UInt8), x ∉ a → index a [x] = -1
  | [], x, _ => by simp [index]
  | b :: a, x, h => by
    have hb : ¬ x = b := fun e => h (by simp [e])
    have ha : x ∉ a := fun e => h (by simp [e])
    have ih := index_single_none a x ha
    unfold index
    rw [ih]
    have h1 : List.isPrefixOf [x] (b :: a) = false := by
      simp [List.isPrefixOf]; exact hb
    rw [h1]; rfl

theorem cut_single (a : List UInt8) (x : UInt8) (r : List UInt8) (h : x ∉ a) : cut (a ++ x :: r) [x] = (a, r, true) := by
  unfold cut
  rw [index_single a x r h, if_pos (by omega)]
  simp

theorem cut_single_none (a : List UInt8) (x : UInt8) (h : x ∉ a) : cut a [x] = (a, [], false) := by
  unfold cut
  rw [index_single_none a x h, if_neg (by omega)]

theorem split_at (s : List UInt8) (x : UInt8) (h : x ∈ s) : ∃ a r, s = a ++ x :: r ∧ x ∉ a := by
  induction s with
  | nil => simp at h
  | cons b s ih =>
    by_cases hb : x = b
    · exact ⟨[], s, by simp [hb], by simp⟩
    · have : x ∈ s := by
        rcases List.mem_cons.1 h with e | e
        · exact absurd e hb
        · exact e
      obtain ⟨a, r, e, hn⟩ := ih this
      exact ⟨b :: a, r, by simp [e], by simp [hb, hn]⟩

theorem unsplit {a a' r r' : List UInt8} {x : UInt8} (h : a ++ x :: r = a' ++ x :: r') (ha : x ∉ a) (ha' : x ∉ a') : a = a' ∧ r = r' := by
  have h1 := cut_single a x r ha
  have h2 := cut_single a' x r' ha'
  rw [h, h2] at h1
  simp only [Prod.mk.injEq] at h1
  exact ⟨h1.1.symm, h1.2.1.symm⟩

/-! ### a line -/
def head (c : Int × List UInt8) : List UInt8 := itoa c.1 ++ 32 :: hexl c.2
theorem line_head (c : Int × List UInt8) : line c = head c ++ [10] := by simp [line, head]

theorem itoa_no (n : Int) (x : UInt8) (h : x.toNat ≤ 44) : x ∉ itoa n := fun hm => by
  rcases itoa_byte n x hm with e | e <;> omega
theorem hexl_no (d : List UInt8) (x : UInt8) (h : x.toNat ≤ 47) : x ∉ hexl d := fun hm => by
  rcases hexl_byte d x hm with e | e <;> omega
theorem head_no (c : Int × List UInt8) : (10 : UInt8) ∉ head c := by
  unfold head
  rw [List.mem_append]
  rintro (h | h)
  · exact itoa_no _ _ (by decide) h
  · rcases List.mem_cons.1 h with e | e
    · exact absurd e (by decide)
    · exact hexl_no _ _ (by decide) e

/-! ### numbers back -/
theorem decFrom_append : ∀ (l : List UInt8) (acc : Nat) (r : List UInt8), decFrom acc (l ++ r) = (decFrom acc l).bind fun n => decFrom n r
  | [], acc, r => by simp [decFrom]
  | b :: l, acc, r => by
    simp only [List.cons_append, decFrom]
    cases digitVal b with
    | none => rfl
    | some d => exact decFrom_append l _ r

theorem digitVal_of (d : Nat) (h : d < 10) : digitVal (UInt8.ofNat (48 + d)) = some d := by
  unfold digitVal
  rw [u8_ofNat_toNat _ (by omega), if_pos (by omega)]
  congr 1; omega

theorem decFrom_decDigits (u : Nat) : decFrom 0 (decDigits u) = some u := by
  induction u using Nat.strongRecOn with
  | _ u ih =>
    rw [decDigits]
    split
    · rename_i h
      simp only [decFrom, digitVal_of u h]
      simp
    · rw [decFrom_append, ih (u / 10) (by omega)]
      simp only [Option.bind_some, decFrom, digitVal_of (u % 10) (by omega)]
      congr 1; omega

/-- decimal digits within a uint64 -/
theorem parseUint10_of : ∀ (l : List UInt8) (acc n : Nat), decFrom acc l = some n → n < 18446744073709551616 → parseUint10 acc l = .ok n
  | [], acc, n, h, _ => by simp only [decFrom, Option.some.injEq] at h; simp [parseUint10, h]
  | b :: l, acc, n, h, hn => by
    simp only [decFrom] at h
    cases hd : digitVal b with
    | none => rw [hd] at h; simp at h
    | some d =>
      rw [hd] at h
      simp only at h
      obtain ⟨h1, h2, h3⟩ := digitVal_eq hd
      have hge : acc * 10 + d ≤ n := by
        clear hd hn h1 h2 h3
        generalize acc * 10 + d = x at h
        induction l generalizing x with
        | nil => simp only [decFrom, Option.some.injEq] at h; omega
        | cons c r ih =>
          simp only [decFrom] at h
          cases hc : digitVal c with
          | none => rw [hc] at h; simp at h
          | some e =>
            rw [hc] at h
            have := ih _ h
            omega
      unfold parseUint10
      rw [if_pos ⟨h1, h2⟩, if_neg (by omega), if_neg (by omega), ← h3]
      exact parseUint10_of l _ n h hn

theorem parseMag_decDigits (u : Nat) (h : u < 18446744073709551616) : parseMag (decDigits u) = .ok u := by
  unfold parseMag
  rw [if_neg (decDigits_ne u)]
  exact parseUint10_of _ 0 u (decFrom_decDigits u) h

theorem atoiAll_itoa (n : Int) (h : isInt n) : atoiAll (itoa n) = .ok n := by
  obtain ⟨h0, h1⟩ := h
  unfold itoa
  split
  · rename_i hn
    unfold atoiAll
    simp only
    rw [if_pos (Or.inr (by decide)), parseMag_decDigits _ (by omega)]
    simp only
    rw [if_neg (by simp), if_neg (by omega)]
    have : (45 : UInt8).toNat = 45 := rfl
    simp only [this, if_true]
    congr 1; omega
  · rename_i hn
    have hd := decDigits_digit n.toNat
    have hne := decDigits_ne n.toNat
    have hp := parseMag_decDigits n.toNat (by omega)
    generalize decDigits n.toNat = l at hd hne hp
    cases l with
    | nil => exact absurd rfl hne
    | cons c r =>
      have hc := hd c (by simp)
      unfold atoiAll
      simp only
      rw [if_neg (by omega), hp]
      simp only
      rw [if_neg (by omega), if_neg (by omega), if_neg (by omega)]
      congr 1; omega

theorem itoa_inj {a b : Int} (ha : isInt a) (hb : isInt b) (h : itoa a = itoa b) : a = b := by
  have h1 := atoiAll_itoa a ha
  rw [h, atoiAll_itoa b hb] at h1
  injection h1 with h1
  exact h1.symm

/-! ### bytes back -/
/-- the value of a hexadecimal digit -/
def unhex (c : UInt8) : Option Nat := if 48 ≤ c.toNat ∧ c.toNat ≤ 57 then some (c.toNat - 48) else if 97 ≤ c.toNat ∧ c.toNat ≤ 102 then some (c.toNat - 87) else none
def pbytes : List UInt8 → Option (List UInt8)
  | [] => some []
  | [_] => none
  | a :: b :: r => match unhex a, unhex b with
    | some x, some y => (pbytes r).map (UInt8.ofNat (16 * x + y) :: ·)
    | _, _ => none

theorem unhex_hexd (n : Nat) (h : n < 16) : unhex (hexd n) = some n := by
  unfold unhex
  rw [hexd_toNat n h]
  by_cases h1 : n < 10
  · rw [if_pos h1, if_pos (by omega)]; congr 1; omega
  · rw [if_neg h1, if_neg (by omega), if_pos (by omega)]; congr 1; omega

theorem hexd_unhex {c : UInt8} {n : Nat} (h : unhex c = some n) : n < 16 ∧ hexd n = c := by
  unfold unhex at h
  split at h
  · simp only [Option.some.injEq] at h
    refine ⟨by omega, ?_⟩
    unfold hexd
    rw [if_pos (by omega)]
    have : 48 + n = c.toNat := by omega
    rw [this]; simp
  · split at h
    · simp only [Option.some.injEq] at h
      refine ⟨by omega, ?_⟩
      unfold hexd
      rw [if_neg (by omega)]
      have : 87 + n = c.toNat := by omega
      rw [this]; simp
    · cases h

theorem pbytes_hexl : ∀ d : List UInt8, pbytes (hexl d) = some d
  | [] => rfl
  | b :: r => by
    have hb : b.toNat < 256 := b.toNat_lt
    simp only [hexl, pbytes]
    rw [unhex_hexd _ (by omega), unhex_hexd _ (by omega)]
    simp only [pbytes_hexl r, Option.map_some]
    congr 2
    have : 16 * (b.toNat / 16) + b.toNat % 16 = b.toNat := by omega
    rw [this]; simp

theorem hexl_pbytes : ∀ (n : Nat) (s d : List UInt8), s.length ≤ n → pbytes s = some d → hexl d = s
  | _, [], d, _, h => by simp only [pbytes, Option.some.injEq] at h; subst h; rfl
  | _, [x], d, _, h => by simp [pbytes] at h
  | 0, a :: b :: r, d, hl, h => by simp at hl
  | n + 1, a :: b :: r, d, hl, h => by
    simp only [pbytes] at h
    cases ha : unhex a with
    | none => rw [ha] at h; simp at h
    | some x =>
      cases hb : unhex b with
      | none => rw [ha, hb] at h; simp at h
      | some y =>
        rw [ha, hb] at h
        simp only at h
        cases hr : pbytes r with
        | none => rw [hr] at h; simp at h
        | some e =>
          rw [hr] at h
          simp only [Option.map_some, Option.some.injEq] at h
          subst h
          obtain ⟨hx, ex⟩ := hexd_unhex ha
          obtain ⟨hy, ey⟩ := hexd_unhex hb
          have ih := hexl_pbytes n r e (by simp at hl; omega) hr
          simp only [hexl, ih]
          rw [u8_ofNat_toNat _ (by omega)]
          rw [show (16 * x + y) / 16 = x by omega, show (16 * x + y) % 16 = y by omega, ex, ey]

/-- a line without its end, read as the program does -/
def pcall (s : List UInt8) : Option (Int × List UInt8) :=
  if (cut s [32]).2.2 then
    match atoiAll (cut s [32]).1 with
    | .ok n => if itoa n = (cut s [32]).1 then (pbytes (cut s [32]).2.1).map fun d => (n, d) else none
    | _ => none
  else none

theorem atoiAll_int {l : List UInt8} {n : Int} (h : atoiAll l = .ok n) : isInt n := by
  unfold atoiAll at h
  split at h
  · cases h
  · simp only at h
    split at h
    · cases h
    · cases h
    · rename_i hm
      have := parseMag_lt hm
      split at h
      · cases h
      · split at h
        · cases h
        · injection h with h
          unfold isInt
          split at h <;> omega

theorem pcall_head (c : Int × List UInt8) (h : isInt c.1) : pcall (head c) = some c := by
  unfold pcall head
  rw [cut_single _ _ _ (itoa_no _ _ (by decide))]
  simp only [if_true]
  rw [atoiAll_itoa _ h]
  simp only [if_true, pbytes_hexl, Option.map_some]

theorem head_pcall {s : List UInt8} {c : Int × List UInt8} (h : pcall s = some c) : head c = s ∧ isInt c.1 := by
  unfold pcall at h
  split at h
  · rename_i hc
    have hsp : (32 : UInt8) ∈ s := by
      rcases Classical.em ((32 : UInt8) ∈ s) with hm | hm
      · exact hm
      · rw [cut_single_none s 32 hm] at hc; simp at hc
    obtain ⟨a, r, rfl, hn⟩ := split_at s 32 hsp
    rw [cut_single a 32 r hn] at h
    simp only at h
    split at h
    · rename_i n hat
      split at h
      · rename_i hi
        cases hp : pbytes r with
        | none => rw [hp] at h; simp at h
        | some d =>
          rw [hp] at h
          simp only [Option.map_some, Option.some.injEq] at h
          subst h
          exact ⟨by simp only [head]; rw [hi, hexl_pbytes _ r d (Nat.le_refl _) hp], atoiAll_int hat⟩
      · cases h
    · cases h
  · cases h

theorem head_inj {c c' : Int × List UInt8} (h : isInt c.1) (h' : isInt c'.1) (e : head c = head c') : c = c' := by
  have := pcall_head c h
  rw [e, pcall_head c' h'] at this
  exact (Option.some.inj this).symm

/-! ### outcomes -/
def Valid (L : List (Int × List UInt8)) : Prop := ∀ c ∈ L, isInt c.1
inductive Out where
  | ok (L : List (Int × List UInt8))
  | bad (i : Nat)

/-- no line begins this text -/
def NoLine (s : List UInt8) : Prop := ∀ c r, isInt c.1 → s ≠ line c ++ r
def Reads (s : List UInt8) : Out → Prop
  | .ok L => s = fmt L ∧ Valid L
  | .bad i => ∃ L r, s = fmt L ++ r ∧ Valid L ∧ L.length = i ∧ r ≠ [] ∧ NoLine r

theorem line_step {c c' : Int × List UInt8} {r r' : List UInt8} (h : isInt c.1) (h' : isInt c'.1) (e : line c ++ r = line c' ++ r') : c = c' ∧ r = r' := by
  rw [line_head, line_head] at e
  simp only [List.append_assoc, List.singleton_append] at e
  obtain ⟨e1, e2⟩ := unsplit e (head_no c) (head_no c')
  exact ⟨head_inj h h' e1, e2⟩

theorem line_ne (c : Int × List UInt8) (r : List UInt8) : line c ++ r ≠ [] := by
  unfold line
  have := itoa_ne c.1
  intro h
  rw [List.append_eq_nil_iff, List.append_eq_nil_iff] at h
  exact this h.1.1

theorem reads_fun : ∀ (L L' : List (Int × List UInt8)) (r r' : List UInt8), Valid L → Valid L' → fmt L ++ r = fmt L' ++ r' → NoLine r → NoLine r' → L = L' ∧ r = r'
  | [], [], r, r', _, _, e, _, _ => ⟨rfl, by simpa [fmt] using e⟩
  | [], c :: L', r, r', _, hv, e, hr, _ => by
    exfalso
    refine hr c (fmt L' ++ r') (hv c (by simp)) ?_
    simpa [fmt] using e
  | c :: L, [], r, r', hv, _, e, _, hr => by
    exfalso
    refine hr c (fmt L ++ r) (hv c (by simp)) ?_
    simpa [fmt] using e.symm
  | c :: L, c' :: L', r, r', hv, hv', e, hr, hr' => by
    simp only [fmt, List.append_assoc] at e
    obtain ⟨e1, e2⟩ := line_step (hv c (by simp)) (hv' c' (by simp)) e
    obtain ⟨e3, e4⟩ := reads_fun L L' r r' (fun x hx => hv x (by simp [hx])) (fun x hx => hv' x (by simp [hx])) e2 hr hr'
    exact ⟨by rw [e1, e3], e4⟩

theorem noLine_nil : NoLine [] := fun c r _ h => line_ne c r h.symm

theorem Reads.unique {s : List UInt8} {o o' : Out} (h : Reads s o) (h' : Reads s o') : o = o' := by
  cases o with
  | ok L =>
    obtain ⟨e, hv⟩ := h
    cases o' with
    | ok L' =>
      obtain ⟨e', hv'⟩ := h'
      have := (reads_fun L L' [] [] hv hv' (by simp [← e, ← e']) noLine_nil noLine_nil).1
      rw [this]
    | bad i =>
      obtain ⟨L', r', e', hv', hl, hne, hno⟩ := h'
      have := (reads_fun L L' [] r' hv hv' (by rw [← e', ← e]; simp) noLine_nil hno).2
      exact absurd this.symm hne
  | bad i =>
    obtain ⟨L, r, e, hv, hl, hne, hno⟩ := h
    cases o' with
    | ok L' =>
      obtain ⟨e', hv'⟩ := h'
      have := (reads_fun L L' r [] hv hv' (by rw [← e', ← e]; simp) hno noLine_nil).2
      exact absurd this hne
    | bad i' =>
      obtain ⟨L', r', e', hv', hl', hne', hno'⟩ := h'
      have := (reads_fun L L' r r' hv hv' (by rw [← e', ← e]) hno hno').1
      rw [← hl, ← hl', this]

/-- the program's step at a text that is not empty: what is cut off, and how it is read -/
theorem step_ok {s one rest : List UInt8} {c : Int × List UInt8} (hc : cut s [10] = (one, rest, true)) (hp : pcall one = some c) : s = line c ++ rest ∧ isInt c.1 := by
  have hm : (10 : UInt8) ∈ s := by
    rcases Classical.em ((10 : UInt8) ∈ s) with hm | hm
    · exact hm
    · rw [cut_single_none s 10 hm] at hc; simp at hc
  obtain ⟨a, r, rfl, hn⟩ := split_at s 10 hm
  rw [cut_single a 10 r hn] at hc
  simp only [Prod.mk.injEq] at hc
  obtain ⟨rfl, rfl, _⟩ := hc
  obtain ⟨h1, h2⟩ := head_pcall hp
  exact ⟨by rw [line_head, h1]; simp, h2⟩

theorem step_bad {s one rest : List UInt8} {ok : Bool} (hc : cut s [10] = (one, rest, ok)) (hp : ok = false ∨ pcall one = none) : NoLine s := by
  intro c r hi e
  subst e
  rw [line_head, List.append_assoc, List.singleton_append, cut_single _ _ _ (head_no c)] at hc
  simp only [Prod.mk.injEq] at hc
  obtain ⟨rfl, rfl, rfl⟩ := hc
  rw [pcall_head c hi] at hp
  simp at hp

end Go.Proofs.Scr
