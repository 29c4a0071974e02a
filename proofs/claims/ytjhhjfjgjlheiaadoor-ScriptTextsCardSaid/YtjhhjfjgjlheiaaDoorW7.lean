/- Walks: the program's reader of bytes; its panic and its recovery. -/
import Derived.Test.YtjhhjfjgjlheiaaDoorW6
import Derived.Deep.DeepCutAuto
import Derived.Recover
namespace Go.Proofs.Scr
open Go Go.RowKit
open Go.Lib (itoa decDigits)

/-- the value of the panic of a parser at a line -/
def wrongAt (i : Int) : Value := .iface 53 (.int .i64 i)

set_option maxRecDepth 100000 in
set_option maxHeartbeats 400000 in
theorem need_ok (p : Addr) (w : World) : Calls Tryd.prog 25 #[.pointer (some p), .bool true] w fun e w' => e = .returned (.tuple #[]) ∧ w = w' := by
  go_enter Tryd.func25, Tryd.ntmps25
  go_wp2_with fail
  go_end0
  exact ⟨rfl, rfl⟩
set_option maxRecDepth 100000 in
set_option maxHeartbeats 400000 in
theorem need_bad (b o : Nat) (i : Int) (w : World) (hc : w.cell? ⟨b, o, none⟩ = some (.int .i64 i)) : Calls Tryd.prog 25 #[.pointer (some ⟨b, o, none⟩), .bool false] w fun e w' => e = .panicked [{ v := wrongAt i, recovered := false }] ∧ w = w' := by
  go_enter Tryd.func25, Tryd.ntmps25
  go_wp2_with fail
  exact ⟨rfl, rfl, rfl⟩

theorem pbytes_split : ∀ (k : Nat) (l : List UInt8), 2 * k ≤ l.length → pbytes l = (pbytes (l.take (2 * k))).bind fun a => (pbytes (l.drop (2 * k))).map (a ++ ·)
  | 0, l, _ => by simp [pbytes]
  | k + 1, [], h => by simp at h
  | k + 1, [a], h => by simp at h; omega
  | k + 1, a :: b :: r, h => by
    rw [show 2 * (k + 1) = 2 * k + 1 + 1 by omega]
    simp only [List.take_succ_cons, List.drop_succ_cons, pbytes]
    rw [pbytes_split k r (by simp at h; omega)]
    cases unhex a with
    | none => rfl
    | some x =>
      cases unhex b with
      | none => rfl
      | some y =>
        simp only
        cases pbytes (r.take (2 * k)) with
        | none => rfl
        | some d =>
          simp only [Option.bind_some, Option.map_some]
          cases pbytes (r.drop (2 * k)) <;> simp
theorem drop_two (l : List UInt8) (k : Nat) (h : 2 * k + 1 < l.length) : l.drop (2 * k) = l[2 * k] :: l[2 * k + 1] :: l.drop (2 * (k + 1)) := by
  rw [List.drop_eq_getElem_cons (by omega), List.drop_eq_getElem_cons (by omega), show 2 * (k + 1) = 2 * k + 1 + 1 by omega]
theorem pbytes_bad {l : List UInt8} {k : Nat} (h : 2 * k + 1 < l.length) (hu : unhex l[2 * k] = none ∨ unhex l[2 * k + 1] = none) : pbytes l = none := by
  rw [pbytes_split k l (by omega), drop_two l k h]
  cases pbytes (l.take (2 * k)) with
  | none => rfl
  | some d =>
    simp only [Option.bind_some, pbytes]
    rcases hu with e | e
    · rw [e]; rfl
    · rw [e]; cases unhex l[2 * k] <;> rfl
theorem pbytes_next {l d : List UInt8} {k x y : Nat} (h : 2 * k + 1 < l.length) (hd : pbytes (l.take (2 * k)) = some d) (hx : unhex l[2 * k] = some x) (hy : unhex l[2 * k + 1] = some y) :
    pbytes (l.take (2 * (k + 1))) = some (d ++ [UInt8.ofNat (16 * x + y)]) := by
  rw [pbytes_split k _ (by simp; omega), List.take_take, List.drop_take, drop_two l k h]
  rw [show min (2 * k) (2 * (k + 1)) = 2 * k by omega, hd, show 2 * (k + 1) - 2 * k = 2 by omega]
  simp [pbytes, hx, hy]
theorem pbytes_odd : ∀ (n : Nat) (l : List UInt8), l.length = 2 * n + 1 → pbytes l = none
  | 0, [a], _ => rfl
  | n + 1, a :: b :: r, h => by
    simp only [pbytes]
    rw [pbytes_odd n r (by simp at h; omega)]
    cases unhex a <;> cases unhex b <;> rfl

theorem pbytes_len (n : Nat) (l d : List UInt8) (hn : l.length ≤ n) (h : pbytes l = some d) : d.length ≤ l.length := by
  have := hexl_pbytes n l d hn h
  have h2 := hexl_length d
  rw [this] at h2; omega

theorem index_hex : ∀ c : Fin 256, Lib.indexByte [48, 49, 50, 51, 52, 53, 54, 55, 56, 57, 97, 98, 99, 100, 101, 102] (UInt8.ofNat c.val) = (match unhex (UInt8.ofNat c.val) with | some n => (n : Int) | none => -1) := by decide +kernel
theorem index_c (c : UInt8) (n : Int) (w : World) (h : n = (c.toNat : Int)) : Calls Tryd.prog 41 #[.string ⟨#[48, 49, 50, 51, 52, 53, 54, 55, 56, 57, 97, 98, 99, 100, 101, 102]⟩, .int .u8 n] w fun e w' => e = .returned (.int .i64 (match unhex c with | some n => (n : Int) | none => -1)) ∧ w' = w := by
  have := Tryd.strings_IndexByte ⟨#[48, 49, 50, 51, 52, 53, 54, 55, 56, 57, 97, 98, 99, 100, 101, 102]⟩ n w
  have h1 := index_hex ⟨c.toNat, c.toNat_lt⟩
  have h2 : n.toNat.toUInt8 = c := by rw [h]; simp
  rw [h2] at this
  simp only [UInt8.ofNat_toNat] at h1
  rw [show ((⟨#[48, 49, 50, 51, 52, 53, 54, 55, 56, 57, 97, 98, 99, 100, 101, 102]⟩ : ByteArray).data.toList) = [48, 49, 50, 51, 52, 53, 54, 55, 56, 57, 97, 98, 99, 100, 101, 102] from rfl, h1] at this
  exact this

theorem index_v (c : UInt8) (n r : Int) (w : World) (h : n = (c.toNat : Int)) (hr : r = (match unhex c with | some n => (n : Int) | none => -1)) : Calls Tryd.prog 41 #[.string ⟨#[48, 49, 50, 51, 52, 53, 54, 55, 56, 57, 97, 98, 99, 100, 101, 102]⟩, .int .u8 n] w fun e w' => e = .returned (.int .i64 r) ∧ w' = w := by
  rw [hr]; exact index_c c n w h
theorem index_cases (c : UInt8) : ∃ r : Int, r = (match unhex c with | some n => (n : Int) | none => -1) ∧ ((∃ n : Nat, unhex c = some n ∧ r = n ∧ n < 16) ∨ (unhex c = none ∧ r = -1)) := by
  cases h : unhex c with
  | none => exact ⟨-1, rfl, .inr ⟨rfl, rfl⟩⟩
  | some n => exact ⟨n, rfl, .inl ⟨n, rfl, rfl, (hexd_unhex h).1⟩⟩

theorem or_i64 (x y : Nat) (hx : x < 16) (hy : y < 16) : bits .or .i64 ((x : Int) * 16) (y : Int) = ((16 * x + y : Nat) : Int) := by
  have h : ∀ a b : Fin 16, bits .or .i64 ((a.val : Int) * 16) (b.val : Int) = ((16 * a.val + b.val : Nat) : Int) := by decide +kernel
  exact h ⟨x, hx⟩ ⟨y, hy⟩

theorem one_new (W : World) (z : UInt8) (T : TypeId) : ∀ j (h : j < [z].length), (W.alloc (.cells #[.int .u8 (z.toNat : Int)] T)).cell? ((⟨W.heap.size, 0, none⟩ : Addr).add j) = some (.int .u8 ([z][j].toNat : Int)) := by
  intro j hj
  have : j = 0 := by simpa using hj
  subst this
  simp [Addr.add]
theorem grown_belowW {w wr W w3 : World} {u : Value} {n : Nat} {e : TypeId} {size : Nat} {xs : List Value} (hbel : Below w.heap.size w wr) (hW : Below wr.heap.size wr W) (hown : OwnG wr w.heap.size e size u n xs) (hgr : W.grownBy w3 u.ownBlock) : Below w.heap.size w w3 ∧ wr.heap.size ≤ w3.heap.size := by
  have hs := hbel.size
  have hs2 := hW.size
  have h := (hbel.trans (hW.mono hs)).grown hgr (by omega) (fun k hk => (hown.lt k hk).1)
  exact ⟨h, by have := hgr.size; omega⟩

def BPost (l : List UInt8) (i : Int) (w : World) (e : Ending) (w' : World) : Prop :=
  ((∃ d v, pbytes l = some d ∧ e = .returned v ∧ OwnB w' w.heap.size v d) ∨ (pbytes l = none ∧ e = .panicked [{ v := wrongAt i, recovered := false }])) ∧ Below w.heap.size w w'

set_option maxRecDepth 100000 in
set_option maxHeartbeats 1600000 in
theorem bytes_any (l : List UInt8) (b o : Nat) (i : Int) (w : World) (hl : l.length ≤ 1000000) (hc : w.cell? ⟨b, o, none⟩ = some (.int .i64 i)) :
    Calls Tryd.prog 33 #[.pointer (some ⟨b, o, none⟩), .string ⟨l.toArray⟩] w (BPost l i w) := by
  by_cases hodd : l.length % 2 = 1
  · have hd : (((l.length : Int) % 2) == 0) = false := by rw [beq_eq_false_iff_ne]; omega
    have hbad := pbytes_odd (l.length / 2) l (by omega)
    have HP : Hid (BPost l i w (.panicked [{ v := wrongAt i, recovered := false }]) w) := Lib.hid ⟨.inr ⟨hbad, rfl⟩, Below.refl _ _⟩
    clear hbad hodd
    go_enter Tryd.func33, Tryd.ntmps33
    go_wp2_with (go_at_call 25; refine (need_bad b o i _ hc).mono ?_; rintro e w1 ⟨rfl, rfl⟩)
    exact ⟨rfl, HP.out⟩
  · have hd : (((l.length : Int) % 2) == 0) = true := by rw [beq_iff_eq]; omega
    have hev : l.length % 2 = 0 := by omega
    have HV := Lib.hid hev
    clear hodd hev
    go_enter Tryd.func33, Tryd.ntmps33
    go_wp2_with (go_at_call 25; refine (need_ok _ _).mono ?_; rintro e w1 ⟨rfl, rfl⟩)
    clear hd
    go_loopw [5, 6] (fun v i wr => ∃ (k : Nat) (d : List UInt8), 2 * k ≤ l.length ∧ i = .int .i64 ((2 * k : Nat) : Int) ∧ pbytes (l.take (2 * k)) = some d ∧ OwnB wr w.heap.size v d ∧ Below w.heap.size w wr) (fun _ i _ => l.length - (RowKit.intOf i).toNat)
    case atStart => exact ⟨0, [], by omega, rfl, rfl, OwnG.nil _ _ 5 1, Below.refl _ _⟩
    case round =>
      obtain ⟨k, d, hk, rfl, hd, hown, hbel⟩ := hrel
      obtain ⟨i0, hi0⟩ : ∃ i0 : Nat, i0 = 2 * k := ⟨_, rfl⟩
      rw [← hi0] at hd hk ⊢
      have HD := Lib.hid hd
      have HO := Lib.hid hown
      have HI := Lib.hid hi0
      have hcw := (hbel.cell (World.block_lt_of_cell? w _ hc)).trans hc
      have hdl : d.length ≤ 1000000 := by have := pbytes_len _ _ _ (Nat.le_refl _) hd; simp at this; omega
      have HL := Lib.hid hdl
      clear hd hown hi0 hdl
      by_cases hlt : i0 < l.length
      · have hlt1 : i0 + 1 < l.length := by have := HV.out; have := HI.out; omega
        obtain ⟨x, hx⟩ : ∃ x : UInt8, x = l[i0] := ⟨_, rfl⟩
        obtain ⟨y, hy⟩ : ∃ y : UInt8, y = l[i0 + 1] := ⟨_, rfl⟩
        obtain ⟨q1, hq1⟩ : ∃ q : Int, q = (x.toNat : Int) := ⟨_, rfl⟩
        obtain ⟨q2, hq2⟩ : ∃ q : Int, q = (y.toNat : Int) := ⟨_, rfl⟩
        have hix1 : ∀ W : World, (Instr.index 9 (.string ⟨l.toArray⟩) (.int .i64 (i0 : Int))).run Tryd.prog W = .ok (.int .u8 q1) W := fun W => by rw [run_sidx W l i0 hlt, ← hx, hq1]
        have hix2 : ∀ W : World, (Instr.index 9 (.string ⟨l.toArray⟩) (.int .i64 ((i0 : Int) + 1))).run Tryd.prog W = .ok (.int .u8 q2) W := fun W => by
          rw [show ((i0 : Int) + 1) = ((i0 + 1 : Nat) : Int) by omega, run_sidx W l (i0 + 1) hlt1, ← hy, hq2]
        have hlt' : (i0 : Int) + 1 < (l.length : Int) := by omega
        obtain ⟨r1, hr1, hu1⟩ := index_cases x
        obtain ⟨r2, hr2, hu2⟩ := index_cases y
        have C1 := Lib.hid (fun W => index_v x q1 r1 W hq1 hr1)
        have C2 := Lib.hid (fun W => index_v y q2 r2 W hq2 hr2)
        have HX := Lib.hid hx
        have HY := Lib.hid hy
        clear hx hy hq1 hq2 hr1 hr2
        have hbad : (unhex x = none ∨ unhex y = none) → ∀ n, BPost l i w (.panicked [{ v := wrongAt i, recovered := false }]) (wr.drewN n) := fun h n =>
          ⟨.inr ⟨pbytes_bad (k := k) (by have := HI.out; omega) (by rw [HX.out, HY.out] at h; simpa only [HI.out] using h), rfl⟩, below_drewN hbel n⟩
        have HBAD := Lib.hid hbad
        clear hbad
        rcases hu1 with ⟨m1, hm1, rfl, hm1'⟩ | ⟨hm1, rfl⟩
        · rcases hu2 with ⟨m2, hm2, rfl, hm2'⟩ | ⟨hm2, rfl⟩
          · have HM1 := Lib.hid hm1
            have HM2 := Lib.hid hm2
            clear hm1 hm2
            have hwr : IntKind.i64.wrap ((i0 : Int) + 1) = (i0 : Int) + 1 := IntWalk.i64_in _ (by omega)
            go_wp2_with fail
            go_quiet ((go_at_call 41; (first | exact Calls.quiet_of_same (C1.out _) | exact Calls.quiet_of_same (C2.out _))))
            clear hwr
            obtain ⟨z, hz⟩ : ∃ z : UInt8, z = UInt8.ofNat (16 * m1 + m2) := ⟨_, rfl⟩
            have hzn : (z.toNat : Int) % 256 = z.toNat := by have := z.toNat_lt; omega
            have hor : bits .or .i64 ((m1 : Int) * 16) (m2 : Int) = (z.toNat : Int) := by
              rw [hz, u8_ofNat_toNat _ (by omega), or_i64 m1 m2 hm1' hm2']
            have HZ := Lib.hid hz
            clear hz
            go_wp2_with (first
              | (go_at_call 25; refine (need_ok _ _).mono ?_; rintro e w1 ⟨rfl, rfl⟩)
              | (at_builtin; refine wpList_append_B (m := [z]) rfl (.tmp 38) (.tmp 44) (by rfl) (by rfl) (OwnG.alloc HO.out _) (by rfl) (one_new (wr.drewN _) z 5) (by have := HL.out; simp only [List.length_cons, List.length_nil]; omega) (by have := hbel.size; simp; omega) ?_; intro v' w3 hown3 hgr3))
            have hG := grown_belowW hbel ((below_drewN (Below.refl _ _) _).alloc (by simp) _) HO.out hgr3
            have hnx := pbytes_next (l := l) (d := d) (k := k) (x := m1) (y := m2) (by have := HI.out; omega) (by rw [← HI.out]; exact HD.out) (by have := HM1.out; rw [HX.out] at this; simpa only [HI.out] using this) (by have := HM2.out; rw [HY.out] at this; simpa only [HI.out] using this)
            rw [← HZ.out] at hnx
            have HNX := Lib.hid hnx
            have HO3 := Lib.hid hown3
            clear hnx hown3 hgr3 hor hzn hix1 hix2
            go_wp2_with fail
            go_roundw
            case rel => exact ⟨k + 1, _, by have := HI.out; omega, by have := HI.out; go_num, HNX.out, HO3.out, hG.1⟩
            case measure => simp [RowKit.intOf]; omega
          · have HM2 := Lib.hid hm2
            clear hm1 hm2
            have hwr : IntKind.i64.wrap ((i0 : Int) + 1) = (i0 : Int) + 1 := IntWalk.i64_in _ (by omega)
            go_wp2_with fail
            go_quiet ((go_at_call 41; (first | exact Calls.quiet_of_same (C1.out _) | exact Calls.quiet_of_same (C2.out _))))
            clear hwr
            go_wp2_with (go_at_call 25; refine (need_bad b o i _ (by simpa using hcw)).mono ?_; rintro e w1 ⟨rfl, rfl⟩)
            exact ⟨rfl, HBAD.out (.inr HM2.out) _⟩
        · have HM1 := Lib.hid hm1
          clear hm1
          have hwr : IntKind.i64.wrap ((i0 : Int) + 1) = (i0 : Int) + 1 := IntWalk.i64_in _ (by omega)
          go_wp2_with fail
          go_quiet ((go_at_call 41; (first | exact Calls.quiet_of_same (C1.out _) | exact Calls.quiet_of_same (C2.out _))))
          clear hwr
          go_wp2_with (go_at_call 25; refine (need_bad b o i _ (by simpa using hcw)).mono ?_; rintro e w1 ⟨rfl, rfl⟩)
          exact ⟨rfl, HBAD.out (.inl HM1.out) _⟩
      · have hP : BPost l i w (.returned u5) wr := ⟨.inl ⟨d, u5, by have h := HD.out; rwa [List.take_of_length_le (by omega)] at h, rfl, HO.out⟩, hbel⟩
        have HP := Lib.hid hP
        clear hP
        go_wp2_with fail
        go_ret
        exact HP.out

set_option maxRecDepth 100000 in
theorem catch_panicking (b2 b3 b4 : Nat) (i : Int) (older : List PanicEntry) (w : World) {x2 x3 x4 : Value} (h2 : w.cell? ⟨b2, 0, none⟩ = some x2) (h3 : w.cell? ⟨b3, 0, none⟩ = some x3) (h4 : w.cell? ⟨b4, 0, none⟩ = some x4)
    (z2 : w.frozen? ⟨b2, 0, none⟩ = false) (z3 : w.frozen? ⟨b3, 0, none⟩ = false) (z4 : w.frozen? ⟨b4, 0, none⟩ = false) (n23 : b2 ≠ b3) (n24 : b2 ≠ b4) (n34 : b3 ≠ b4) :
    CallsD Tryd.prog 23 #[.pointer (some ⟨b2, 0, none⟩), .pointer (some ⟨b3, 0, none⟩), .pointer (some ⟨b4, 0, none⟩)] (.panicking ({ v := .iface 53 (.int .i64 i), recovered := false } :: older)) w fun e u' w' =>
      e = .returned (.tuple #[]) ∧ u' = .panicking ({ v := .iface 53 (.int .i64 i), recovered := true } :: older) ∧ w' = ((w.setCell ⟨b2, 0, none⟩ (.slice none 0 0)).setCell ⟨b3, 0, none⟩ (.int .i64 i)).setCell ⟨b4, 0, none⟩ (.bool false) := by
  have hta : ∀ W : World, (Instr.typeAssert (.iface 53 (.int .i64 i)) 20 53 true).run Tryd.prog W = .ok (.tuple #[.int .i64 i, .bool true]) W := fun W => by simp [Instr.typeAssert, run_underlying Tryd.underlying53]
  refine callsD_of_wpS Tryd.func23 rfl fun c₀ cs hu => ?_
  apply wpS_seq
  apply wpS_region
  simp [wpOpsS, go_sem, recoverD, hu, Tryd.ntmps23, Exit.thenS]
  refine wpS_of_wp ?_
  simp only [Array.replicate_succ, Array.replicate_zero, List.push_toArray, List.append_toArray, List.nil_append, List.cons_append, List.setIfInBounds_toArray, List.set_cons_zero, List.set_cons_succ]
  go_wp2_with fail
  cases c₀
  simp_all [bodyPostS, results, Tryd.results23]
theorem catch_idle (b2 b3 b4 : Nat) (w : World) :
    CallsD Tryd.prog 23 #[.pointer (some ⟨b2, 0, none⟩), .pointer (some ⟨b3, 0, none⟩), .pointer (some ⟨b4, 0, none⟩)] .returning w fun e u' w' => e = .returned (.tuple #[]) ∧ u' = .returning ∧ w' = w := by
  refine callsD_of_wpS Tryd.func23 rfl fun c₀ cs hu => ?_
  apply wpS_seq
  apply wpS_region
  simp [wpOpsS, go_sem, recoverD, hu, Tryd.ntmps23, Exit.thenS]
  refine wpS_of_wp ?_
  simp only [Array.replicate_succ, Array.replicate_zero, List.push_toArray, List.append_toArray, List.nil_append, List.cons_append, List.setIfInBounds_toArray, List.set_cons_zero, List.set_cons_succ]
  go_wp2_with fail
  cases c₀
  simp_all [bodyPostS, results, Tryd.results23]
end Go.Proofs.Scr
