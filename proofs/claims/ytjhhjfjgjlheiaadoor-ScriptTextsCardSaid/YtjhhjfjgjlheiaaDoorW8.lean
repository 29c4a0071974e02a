/- Walks: the program reads a line. -/
import Derived.Test.YtjhhjfjgjlheiaaDoorW7
import Derived.WideLaws
namespace Go.Proofs.Scr
open Go Go.RowKit
open Go.Lib (itoa decDigits)

theorem cut_c (l a r : List UInt8) (x : UInt8) (b : Bool) (w : World) (hE : Env w) (hl : l.length ≤ 1000000000) (h : Lib.cut l [x] = (a, r, b)) :
    Calls Tryd.prog 24 #[.string ⟨l.toArray⟩, .string ⟨#[x]⟩] w fun e w' => e = .returned (.tuple #[.string ⟨a.toArray⟩, .string ⟨r.toArray⟩, .bool b]) ∧ Below w.heap.size w w' := by
  have := cut_any ⟨l.toArray⟩ ⟨#[x]⟩ w hE (by show l.toArray.size < _; simp; omega)
  have e1 : (⟨l.toArray⟩ : ByteArray).data.toList = l := by simp
  have e2 : (⟨#[x]⟩ : ByteArray).data.toList = [x] := rfl
  rw [e1, e2, h] at this
  exact this
theorem cut_le {l a r : List UInt8} {x : UInt8} {b : Bool} (h : Lib.cut l [x] = (a, r, b)) : a.length ≤ l.length ∧ r.length ≤ l.length := by
  by_cases hx : x ∈ l
  · obtain ⟨u, v, rfl, hn⟩ := split_at l x hx
    rw [cut_single u x v hn] at h
    simp only [Prod.mk.injEq] at h
    obtain ⟨rfl, rfl, _⟩ := h
    simp; omega
  · rw [cut_single_none l x hx] at h
    simp only [Prod.mk.injEq] at h
    obtain ⟨rfl, rfl, _⟩ := h
    simp
theorem atoi_okc (l : List UInt8) (w : World) (v : Int) (hs : l.length ≤ 1000000000) (h : Lib.atoiAll l = .ok v) :
    Calls Tryd.prog 32 #[.string ⟨l.toArray⟩] w fun e w' => e = .returned (.tuple #[.int .i64 v, .nilIface]) ∧ Below w.heap.size w w' :=
  atoi_ok ⟨l.toArray⟩ w v (by show l.toArray.size ≤ _; simpa using hs) (by simpa using h)
theorem atoi_badc (l : List UInt8) (w : World) (hE : Env w) (hs : l.length ≤ 1000000000) (h : ∀ v, Lib.atoiAll l ≠ .ok v) :
    Calls Tryd.prog 32 #[.string ⟨l.toArray⟩] w fun e w' => ∃ n N, e = .returned (.tuple #[.int .i64 n, .iface 86 (.pointer (some ⟨N, 0, none⟩))]) ∧ Below w.heap.size w w' :=
  atoi_bad ⟨l.toArray⟩ w hE (by show l.toArray.size ≤ _; simpa using hs) (by simpa using h)

def CPost (l : List UInt8) (i : Int) (w : World) (e : Ending) (w' : World) : Prop :=
  ((∃ c dv, pcall l = some c ∧ e = .returned (.agg #[.int .i64 c.1, dv]) ∧ OwnB w' w.heap.size dv c.2) ∨ (pcall l = none ∧ e = .panicked [{ v := wrongAt i, recovered := false }])) ∧ Below w.heap.size w w'

set_option maxRecDepth 100000 in
set_option maxHeartbeats 1600000 in
theorem pcall_any (l : List UInt8) (b o : Nat) (i : Int) (w : World) (hE : Env w) (hl : l.length ≤ 1000000) (hc : w.cell? ⟨b, o, none⟩ = some (.int .i64 i)) :
    Calls Tryd.prog 26 #[.pointer (some ⟨b, o, none⟩), .string ⟨l.toArray⟩] w (CPost l i w) := by
  obtain ⟨num, data, ok, hcut⟩ : ∃ a r c, Lib.cut l [32] = (a, r, c) := ⟨_, _, _, rfl⟩
  obtain ⟨hn1, hn2⟩ := cut_le hcut
  have hE1 := hE.below ((Below.refl _ _).alloc (Nat.le_refl _) (.cells #[.int .i64 0, .slice none 0 0] 36))
  have HCUT := Lib.hid hcut
  have HE := Lib.hid hE
  have HE1 := Lib.hid hE1
  have hbw := World.block_lt_of_cell? w _ hc
  clear hE hE1 hcut
  have G0 : Below w.heap.size w (w.alloc (.cells #[.int .i64 0, .slice none 0 0] 36)) := (Below.refl _ _).alloc (Nat.le_refl _) _
  by_cases hok : ok = true
  · subst hok
    by_cases hat : ∃ v, Lib.atoiAll num = .ok v
    · obtain ⟨v, hv⟩ := hat
      have hvi := atoiAll_int hv
      obtain ⟨hv0, hv1⟩ := hvi
      have HV := Lib.hid hv
      clear hv
      by_cases heq : itoa v = num
      · have heq' : (itoa v == num) = true := by simpa using heq
        have HP : Hid (pcall l = (pbytes data).map fun d => (v, d)) := Lib.hid (by unfold pcall; rw [HCUT.out, if_pos rfl]; simp only; rw [HV.out]; simp only; rw [if_pos heq])
        clear heq
        go_enter Tryd.func26, Tryd.ntmps26
        go_wp2_with fail
        refine (cut_c l num data 32 true _ HE1.out (by omega) HCUT.out).mono ?_
        rintro e w1 ⟨rfl, hb1⟩
        have G1 := G0.trans (hb1.mono (by simp))
        have hz1 : w.heap.size < w1.heap.size := by have := hb1.size; simp at this; omega
        have hr1 : w1.heap[w.heap.size]? = some (.cells #[.int .i64 0, .slice none 0 0] 36) := (hb1.block _ (by simp)).trans (h_new w _)
        go_wp2_with (go_at_call 25; refine (need_ok _ _).mono ?_; rintro e w1' ⟨rfl, rfl⟩)
        refine (atoi_okc num _ v (by omega) HV.out).mono ?_
        rintro e w2 ⟨rfl, hb2⟩
        have G2 := G1.trans (hb2.mono (by omega))
        have hr2 := (hb2.block _ hz1).trans hr1
        have hz2 : w.heap.size < w2.heap.size := by have := hb2.size; omega
        have HE2 := Lib.hid (HE.out.below G2)
        go_wp2_with fail
        refine (itoa_any v _ HE2.out hv0 hv1).mono ?_
        rintro e w3 ⟨rfl, hb3⟩
        have G3 := G2.trans (hb3.mono (by omega))
        have hr3 := (hb3.block _ hz2).trans hr2
        have hz3 : w.heap.size < w3.heap.size := by have := hb3.size; omega
        go_wp2_with (go_at_call 25; refine (need_ok _ _).mono ?_; rintro e w3' ⟨rfl, rfl⟩)
        refine (bytes_any data b o i _ (by omega) ((G3.cell hbw).trans hc)).mono ?_
        intro e w4 hB
        obtain ⟨hB1, hb4⟩ := hB
        have G4 := G3.trans (hb4.mono (by omega))
        have hr4 := (hb4.block _ hz3).trans hr3
        rcases hB1 with ⟨d, dv, hd, rfl, hby⟩ | ⟨hd, rfl⟩
        · have hp : pcall l = some (v, d) := by rw [HP.out, hd]; rfl
          obtain ⟨A, c, rfl⟩ := OwnG.slice hby
          have c40 : w4.cell? ⟨w.heap.size, 0, none⟩ = some (.int .i64 0) := cell_of_row w4 w.heap.size 0 _ _ _ hr4
          have c41 : w4.cell? ⟨w.heap.size, 1, none⟩ = some (.slice none 0 0) := cell_of_row w4 w.heap.size 1 _ _ _ hr4
          have f40 := frozen0 hr4 0
          have f41 := frozen0 hr4 1
          have hne : (Value.slice A d.length c).ownBlock ≠ some w.heap.size := fun h => by have := (OwnG.lt hby _ h).1; omega
          have hb5 := OwnG.setCell hby (p := ⟨w.heap.size, 0, none⟩) hne (.int .i64 v)
          have hb6 := OwnG.low (OwnG.setCell hb5 (p := ⟨w.heap.size, 1, none⟩) hne (.slice A d.length c)) (Nat.le_of_lt hz3)
          have HP6 : Hid (CPost l i w (.returned (.agg #[.int .i64 v, .slice A d.length c])) ((w4.setCell ⟨w.heap.size, 0, none⟩ (.int .i64 v)).setCell ⟨w.heap.size, 1, none⟩ (.slice A d.length c))) :=
            Lib.hid ⟨.inl ⟨(v, d), _, hp, rfl, hb6⟩, (G4.setCell (by simp) _).setCell (by simp) _⟩
          clear hb5 hb6 hby hp hr1 hr2 hr3 hr4 hne
          go_wp2_with fail
          exact bodyPost_ret (v := .agg #[.int .i64 v, .slice A d.length c]) (by simp [results, Tryd.results26, go_sem, c40, c41]) rfl HP6.out
        · have hp : pcall l = none := by rw [HP.out, hd]; rfl
          exact ⟨rfl, .inr ⟨hp, rfl⟩, G4⟩
      · have heq' : (itoa v == num) = false := by simpa using heq
        have hbad : pcall l = none := by unfold pcall; rw [HCUT.out, if_pos rfl]; simp only; rw [HV.out]; simp only; rw [if_neg heq]
        have HB : Hid (∀ w', Below w.heap.size w w' → CPost l i w (.panicked [{ v := wrongAt i, recovered := false }]) w') := Lib.hid fun w' h => ⟨.inr ⟨hbad, rfl⟩, h⟩
        clear hbad heq
        go_enter Tryd.func26, Tryd.ntmps26
        go_wp2_with fail
        refine (cut_c l num data 32 true _ HE1.out (by omega) HCUT.out).mono ?_
        rintro e w1 ⟨rfl, hb1⟩
        have G1 := G0.trans (hb1.mono (by simp))
        have hz1 : w.heap.size < w1.heap.size := by have := hb1.size; simp at this; omega
        go_wp2_with (go_at_call 25; refine (need_ok _ _).mono ?_; rintro e w1' ⟨rfl, rfl⟩)
        refine (atoi_okc num _ v (by omega) HV.out).mono ?_
        rintro e w2 ⟨rfl, hb2⟩
        have G2 := G1.trans (hb2.mono (by omega))
        have hz2 : w.heap.size < w2.heap.size := by have := hb2.size; omega
        have HE2 := Lib.hid (HE.out.below G2)
        go_wp2_with fail
        refine (itoa_any v _ HE2.out hv0 hv1).mono ?_
        rintro e w3 ⟨rfl, hb3⟩
        have G3 := G2.trans (hb3.mono (by omega))
        go_wp2_with (go_at_call 25; refine (need_bad b o i _ ((G3.cell hbw).trans hc)).mono ?_; rintro e w3' ⟨rfl, rfl⟩)
        exact ⟨rfl, HB.out _ G3⟩
    · have hbad : pcall l = none := by
        unfold pcall; rw [HCUT.out, if_pos rfl]
        split
        · rename_i n hn; exact absurd ⟨n, hn⟩ hat
        · rfl
      have hat' : ∀ v, Lib.atoiAll num ≠ .ok v := fun v h => hat ⟨v, h⟩
      have HAT := Lib.hid hat'
      have HB : Hid (∀ w', Below w.heap.size w w' → CPost l i w (.panicked [{ v := wrongAt i, recovered := false }]) w') := Lib.hid fun w' h => ⟨.inr ⟨hbad, rfl⟩, h⟩
      clear hbad hat hat'
      go_enter Tryd.func26, Tryd.ntmps26
      go_wp2_with fail
      refine (cut_c l num data 32 true _ HE1.out (by omega) HCUT.out).mono ?_
      rintro e w1 ⟨rfl, hb1⟩
      have G1 := G0.trans (hb1.mono (by simp))
      have hz1 : w.heap.size < w1.heap.size := by have := hb1.size; simp at this; omega
      go_wp2_with (go_at_call 25; refine (need_ok _ _).mono ?_; rintro e w1' ⟨rfl, rfl⟩)
      have HE2 := Lib.hid (HE.out.below G1)
      refine (atoi_badc num _ HE2.out (by omega) HAT.out).mono ?_
      rintro e w2 ⟨n, N, rfl, hb2⟩
      have G2 := G1.trans (hb2.mono (by omega))
      go_wp2_with (go_at_call 25; refine (need_bad b o i _ ((G2.cell hbw).trans hc)).mono ?_; rintro e w3' ⟨rfl, rfl⟩)
      exact ⟨rfl, HB.out _ G2⟩
  · have hokf : ok = false := by simpa using hok
    subst hokf
    have hbad : pcall l = none := by unfold pcall; rw [HCUT.out]; rfl
    have HB : Hid (∀ w', Below w.heap.size w w' → CPost l i w (.panicked [{ v := wrongAt i, recovered := false }]) w') := Lib.hid fun w' h => ⟨.inr ⟨hbad, rfl⟩, h⟩
    clear hbad hok
    go_enter Tryd.func26, Tryd.ntmps26
    go_wp2_with fail
    refine (cut_c l num data 32 false _ HE1.out (by omega) HCUT.out).mono ?_
    rintro e w1 ⟨rfl, hb1⟩
    have G1 := G0.trans (hb1.mono (by simp))
    go_wp2_with (go_at_call 25; refine (need_bad b o i _ ((G1.cell hbw).trans hc)).mono ?_; rintro e w3' ⟨rfl, rfl⟩)
    exact ⟨rfl, HB.out _ G1⟩
end Go.Proofs.Scr
