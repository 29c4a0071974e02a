/- Walks: the loose reader of a line in the reference. -/
import Derived.Test.YtjhhjfjgjlheiaaDoorW5
import Derived.Deep.RegionHeld3
import Derived.Deep.DeepCutAuto
import Derived.Deep.CutBlock
namespace Go.Proofs.Scr
open Go Go.RowKit
open Go.Lib (itoa decDigits)

theorem run_sidx (w : World) (l : List UInt8) (k : Nat) (h : k < l.length) : (Instr.index 9 (.string ⟨l.toArray⟩) (.int .i64 (k : Int))).run Tryd.prog w = .ok (.int .u8 (l[k].toNat : Int)) w := by
  have h0 : (0 : Int) ≤ (k : Int) := by omega
  have h1 : (k : Int) < (l.length : Int) := by omega
  simp [go_sem, h1]
  rfl

set_option maxRecDepth 100000 in
set_option maxHeartbeats 400000 in
theorem hexf_any (n : Int) (w : World) (h0 : 0 ≤ n) (h1 : n ≤ 255) : Calls Tryd.prog 27 #[.int .u8 n] w fun e w' => e = .returned (.int .u8 (rhex (UInt8.ofNat n.toNat) : Int)) ∧ w' = w := by
  have ht : (UInt8.ofNat n.toNat).toNat = n.toNat := u8_ofNat_toNat _ (by omega)
  by_cases a : 48 ≤ n
  · by_cases b : n ≤ 57
    · have hz := Lib.hid (show (rhex (UInt8.ofNat n.toNat) : Int) = n - 48 by unfold rhex; rw [ht, if_pos (by omega)]; omega)
      clear ht
      go_enter Tryd.func27, Tryd.ntmps27
      go_wp2_with fail
      go_ret
      exact ⟨by rw [hz.out]; rfl, rfl⟩
    · by_cases c : 97 ≤ n
      · by_cases d : n ≤ 102
        · have hz := Lib.hid (show (rhex (UInt8.ofNat n.toNat) : Int) = n - 97 + 10 by unfold rhex; rw [ht, if_neg (by omega), if_pos (by omega)]; omega)
          clear ht
          go_enter Tryd.func27, Tryd.ntmps27
          go_wp2_with fail
          go_ret
          exact ⟨by rw [hz.out]; rfl, rfl⟩
        · have hz := Lib.hid (show (rhex (UInt8.ofNat n.toNat) : Int) = 0 by unfold rhex; rw [ht, if_neg (by omega), if_neg (by omega)]; rfl)
          clear ht
          go_enter Tryd.func27, Tryd.ntmps27
          go_wp2_with fail
          go_ret
          exact ⟨by rw [hz.out]; rfl, rfl⟩
      · have hz := Lib.hid (show (rhex (UInt8.ofNat n.toNat) : Int) = 0 by unfold rhex; rw [ht, if_neg (by omega), if_neg (by omega)]; rfl)
        clear ht
        go_enter Tryd.func27, Tryd.ntmps27
        go_wp2_with fail
        go_ret
        exact ⟨by rw [hz.out]; rfl, rfl⟩
  · have hz := Lib.hid (show (rhex (UInt8.ofNat n.toNat) : Int) = 0 by unfold rhex; rw [ht, if_neg (by omega), if_neg (by omega)]; rfl)
    clear ht
    go_enter Tryd.func27, Tryd.ntmps27
    go_wp2_with fail
    go_ret
    exact ⟨by rw [hz.out]; rfl, rfl⟩

theorem hexf_c (c : UInt8) (n : Int) (w : World) (h : n = (c.toNat : Int)) : Calls Tryd.prog 27 #[.int .u8 n] w fun e w' => e = .returned (.int .u8 (rhex c : Int)) ∧ w' = w := by
  have := hexf_any n w (by omega) (by have := c.toNat_lt; omega)
  rwa [show UInt8.ofNat n.toNat = c by rw [h]; simp] at this

theorem rbytes_all : ∀ (j : Nat) (r : List UInt8), r.length ≤ 2 * j + 1 → rbytes (r.take (2 * j)) = rbytes r
  | 0, [], _ => rfl
  | 0, [a], _ => rfl
  | 0, a :: b :: r, h => by simp at h
  | j + 1, [], _ => by simp
  | j + 1, [a], _ => by rw [show 2 * (j + 1) = 2 * j + 1 + 1 by omega]; rfl
  | j + 1, a :: b :: r, h => by
    rw [show 2 * (j + 1) = 2 * j + 1 + 1 by omega]
    simp only [List.take_succ_cons, rbytes]
    rw [rbytes_all j r (by simp at h; omega)]
theorem rbytes_snoc : ∀ (j : Nat) (r : List UInt8) (h : 2 * j + 1 < r.length), rbytes (r.take (2 * (j + 1))) = rbytes (r.take (2 * j)) ++ [UInt8.ofNat (16 * rhex r[2 * j] + rhex r[2 * j + 1])]
  | j, [], h => by simp at h
  | j, [a], h => by simp at h
  | 0, a :: b :: r, _ => by simp [rbytes]
  | j + 1, a :: b :: r, h => by
    have h' : 2 * j + 1 < r.length := by simp at h; omega
    have ih := rbytes_snoc j r h'
    rw [show 2 * (j + 1 + 1) = 2 * (j + 1) + 1 + 1 by omega]
    simp only [List.take_succ_cons, rbytes]
    rw [ih]
    simp only [show 2 * (j + 1) = 2 * j + 1 + 1 by omega, List.take_succ_cons, rbytes, List.getElem_cons_succ, List.cons_append]

theorem sp_cons (b : UInt8) (l : List UInt8) : sp (b :: l) = if b = 32 then 0 else sp l + 1 := by
  unfold sp
  rw [List.takeWhile_cons]
  by_cases hb : b = 32
  · subst hb; simp
  · simp [hb]
theorem sp_lt (l : List UInt8) : sp l ≤ l.length := by
  induction l with
  | nil => simp [sp]
  | cons b l ih => rw [sp_cons]; split <;> simp; omega
theorem sp_no : ∀ (l : List UInt8) (j : Nat) (h : j < l.length), j < sp l → l[j] ≠ 32
  | [], j, h, _ => by simp at h
  | b :: l, j, h, hj => by
    rw [sp_cons] at hj
    by_cases hb : b = 32
    · rw [if_pos hb] at hj; omega
    · rw [if_neg hb] at hj
      cases j with
      | zero => simpa using hb
      | succ j => simpa using sp_no l j (by simpa using h) (by omega)
theorem sp_at : ∀ (l : List UInt8) (h : sp l < l.length), l[sp l] = 32
  | [], h => by simp at h
  | b :: l, h => by
    by_cases hb : b = 32
    · have e : sp (b :: l) = 0 := by rw [sp_cons, if_pos hb]
      simp only [e, List.getElem_cons_zero]; exact hb
    · have e : sp (b :: l) = sp l + 1 := by rw [sp_cons, if_neg hb]
      simp only [e, List.getElem_cons_succ]
      exact sp_at l (by rw [e] at h; simpa using h)

theorem h_old (w : World) (o : Obj) (k : Nat) (h : k < w.heap.size) : (w.alloc o).heap[k]? = w.heap[k]? := by
  show (w.heap.push o)[k]? = _
  rw [Array.getElem?_push, if_neg (by omega)]
theorem h_new (w : World) (o : Obj) : (w.alloc o).heap[w.heap.size]? = some o := by
  show (w.heap.push o)[w.heap.size]? = _
  simp
theorem frozen0 {w : World} {g : Nat} {cs : Array Value} {t : TypeId} (h : w.heap[g]? = some (.cells cs t (0, 0))) (j : Nat) : w.frozen? ⟨g, j, none⟩ = false := by simp [World.frozen?, h]
theorem row_set0 {w : World} {g : Nat} {a b : Value} {t : TypeId} (h : w.heap[g]? = some (.cells #[a, b] t (0, 0))) (v : Value) : (w.setCell ⟨g, 0, none⟩ v).heap[g]? = some (.cells #[v, b] t (0, 0)) := by
  rw [setCell_eq_setRow w g 0 _ t _ v h, setRow_heap w g _ _ t _ h]; rfl
theorem row_set1 {w : World} {g : Nat} {a b : Value} {t : TypeId} (h : w.heap[g]? = some (.cells #[a, b] t (0, 0))) (v : Value) : (w.setCell ⟨g, 1, none⟩ v).heap[g]? = some (.cells #[a, v] t (0, 0)) := by
  rw [setCell_eq_setRow w g 1 _ t _ v h, setRow_heap w g _ _ t _ h]; rfl

theorem two_le {w wr : World} {o : Obj} (_ : Below w.heap.size w wr) (h : wr.heap[w.heap.size + 1]? = some o) : w.heap.size + 2 ≤ wr.heap.size := by
  have := (Array.getElem?_eq_some_iff.1 h).1; omega
theorem rbytes_le : ∀ r : List UInt8, (rbytes r).length ≤ r.length
  | [] => Nat.le_refl _
  | [_] => by simp [rbytes]
  | a :: b :: r => by have := rbytes_le r; simp [rbytes]; omega

theorem rbytes_step (l : List UInt8) (p j i0 : Nat) (h : i0 = p + 2 * j) (hl : i0 + 1 < l.length) :
    rbytes ((l.drop p).take (2 * (j + 1))) = rbytes ((l.drop p).take (2 * j)) ++ [UInt8.ofNat (16 * rhex l[i0] + rhex l[i0 + 1])] := by
  subst h
  have := rbytes_snoc j (l.drop p) (by simp; omega)
  simp only [List.getElem_drop] at this
  exact this
theorem or_hex {x y z : UInt8} (h : z = UInt8.ofNat (16 * rhex x + rhex y)) : bits .or .u8 ((rhex x : Int) * 16) (rhex y : Int) = (z.toNat : Int) := by
  have hx := rhex_lt x
  have hy := rhex_lt y
  rw [h, u8_ofNat_toNat _ (by omega)]
  have h1 : ((rhex x : Int) * 16) = ((rhex x * 16 : Nat) : Int) := by omega
  rw [h1, u8_or_nat _ _ (by omega) (by omega)]
  have := Nat.two_pow_add_eq_or_of_lt (i := 4) (b := rhex y) (by omega) (rhex x)
  rw [Nat.mul_comm (rhex x) 16, show (16 : Nat) = 2 ^ 4 by rfl, ← this]

theorem row_after {wr w3 : World} {o ob : Obj} {B g : Nat} {v : Value} {l : List UInt8} (hown : OwnB wr B v l) (hgr : (wr.alloc o).drew.grownBy w3 v.ownBlock) (h : wr.heap[g]? = some ob) (hg : g < B) : w3.heap[g]? = some ob := by
  have hlt : g < wr.heap.size := (Array.getElem?_eq_some_iff.1 h).1
  rw [hgr.block g (by simp; omega) (fun e => by have := (OwnG.lt hown g e.symm).1; omega)]
  exact (h_old wr o g hlt).trans h
theorem grown_below'' {w wr w3 : World} {B : Nat} {v : Value} {l : List UInt8} {o : Obj} (hbel : Below w.heap.size w wr) (hown : OwnB wr B v l) (hB : w.heap.size ≤ B) (hgr : (wr.alloc o).drew.grownBy w3 v.ownBlock) : Below w.heap.size w w3 ∧ wr.heap.size < w3.heap.size := by
  have h := ((hbel.alloc hbel.size o).drew).grown hgr (by have := hbel.size; simp; omega) (fun k hk => Nat.le_trans hB (OwnG.lt hown k hk).1)
  exact ⟨h, by have := hgr.size; simp at this; omega⟩

theorem ownB_next {w3 : World} {B : Nat} {A : Option Addr} {c : Nat} {L L' : List UInt8} {z : UInt8} {u : Value} (hL : L' = L ++ [z]) (h : OwnB w3 (B + 2) (.slice A (L ++ [z]).length c) (L ++ [z])) :
    OwnB (w3.setCell ⟨B + 1, 1, none⟩ u) (B + 2) (.slice A (L.length + 1) c) L' := by
  subst hL
  have e : Value.slice A (L.length + 1) c = Value.slice A (L ++ [z]).length c := by simp
  rw [e]
  exact OwnG.setCell h (p := ⟨B + 1, 1, none⟩) (fun h' => by have := (OwnG.lt h _ h').1; simp at this) u

theorem rnum_snoc (l : List UInt8) (k : Nat) (h : k < l.length) : rnum (l.take (k + 1)) = rstep (rnum (l.take k)) l[k] := by
  unfold rnum
  rw [List.take_succ_eq_append_getElem h, List.foldl_append]; rfl

set_option maxRecDepth 100000 in
set_option maxHeartbeats 3200000 in
theorem call_any (l : List UInt8) (w : World) (hl : l.length ≤ 1000000) :
    Calls Tryd.prog 19 #[.string ⟨l.toArray⟩] w fun e w' => ∃ dv, e = .returned (.agg #[.int .i64 (rcall l).1, dv]) ∧ OwnB w' w.heap.size dv (rcall l).2 ∧ Below w.heap.size w w' := by
  have hsp := sp_lt l
  go_enter Tryd.func19, Tryd.ntmps19
  go_upto_block 0 with (fail)
  go_cut [4, 5] (fun m i wx => i = .int .i64 (sp l : Int) ∧ m = .bool (rnum (l.take (sp l))).1 ∧ wx.heap[w.heap.size]? = some (.cells #[.int .i64 0, .slice none 0 0] 36 (0, 0)) ∧
      wx.heap[w.heap.size + 1]? = some (.cells #[.int .i64 (rnum (l.take (sp l))).2, .slice none 0 0] 36 (0, 0)) ∧ Below w.heap.size w wx)
  case first =>
    go_wp2_with fail
    go_loopw [4, 5] (fun m i wr => ∃ (k : Nat) (n : Int), k ≤ sp l ∧ i = .int .i64 k ∧ m = .bool (rnum (l.take k)).1 ∧ n = (rnum (l.take k)).2 ∧ wr.heap[w.heap.size]? = some (.cells #[.int .i64 0, .slice none 0 0] 36 (0, 0)) ∧
        wr.heap[w.heap.size + 1]? = some (.cells #[.int .i64 n, .slice none 0 0] 36 (0, 0)) ∧ Below w.heap.size w wr) (fun _ i _ => l.length - (RowKit.intOf i).toNat)
    case atStart => exact ⟨0, 0, Nat.zero_le _, rfl, rfl, rfl, (h_old _ _ _ (by simp)).trans (h_new _ _), heap_alloc2_new w _ _, ((Below.refl _ _).alloc (Nat.le_refl _) _).alloc (by simp) _⟩
    case round =>
      obtain ⟨k, n, hk, rfl, rfl, hn, hr0, hr1, hbel⟩ := hrel
      have c10 : wr.cell? ⟨w.heap.size + 1, 0, none⟩ = some (.int .i64 n) := cell_of_row wr (w.heap.size + 1) 0 _ _ _ hr1
      have f10 := frozen0 hr1 0
      have H0 := Lib.hid hr0; clear hr0
      have H1 := Lib.hid hr1; clear hr1
      have HN := Lib.hid hn; clear hn
      by_cases hlt : k < sp l
      · have hkl : k < l.length := by omega
        have hno := sp_no l k hkl hlt
        have hrs := rnum_snoc l k hkl
        obtain ⟨b, hb⟩ : ∃ b : UInt8, b = l[k] := ⟨_, rfl⟩
        rw [← hb] at hno hrs
        obtain ⟨q, hq⟩ : ∃ q : Int, q = (b.toNat : Int) := ⟨_, rfl⟩
        have hq0 : 0 ≤ q := by omega
        have hq1 : q ≤ 255 := by have := b.toNat_lt; omega
        have hqb : UInt8.ofNat q.toNat = b := by rw [hq]; simp
        have hne : (q != 32) = true := by
          rw [bne_iff_ne, hq]; intro h; apply hno; apply UInt8.toNat_inj.1; have : (32 : UInt8).toNat = 32 := rfl; omega
        have hix : ∀ W : World, (Instr.index 9 (.string ⟨l.toArray⟩) (.int .i64 (k : Int))).run Tryd.prog W = .ok (.int .u8 q) W := fun W => by rw [run_sidx W l k hkl, ← hb, hq]
        have HRS := Lib.hid hrs
        have HQ := Lib.hid hq
        have HQB := Lib.hid hqb
        have hb1 : (k : Int) < (l.length : Int) := by omega
        clear hb hrs hq hqb hno
        go_wp2_with fail
        · have h45 : (q == 45) = true := by assumption
          go_roundw
          case rel =>
            refine ⟨k + 1, n, by omega, by go_num, ?_, ?_, H0.out, H1.out, hbel⟩ <;> rw [HRS.out] <;> unfold rstep <;>
              rw [if_pos (by apply UInt8.toNat_inj.1; have h1 := HQ.out; have h2 : q = 45 := (by simpa using h45); show b.toNat = 45; omega)]
            exact HN.out
          case measure => simp [RowKit.intOf]; omega
        · have h45 : (q == 45) = false := by assumption
          have hn45 : ¬ b = 45 := fun e => by
            have h1 := HQ.out; rw [e] at h1; rw [h1] at h45; simp at h45
          have HN45 := Lib.hid hn45; clear hn45
          have hrb : IntKind.i64.wrap (rhex b : Int) = (rhex b : Int) := IntWalk.i64_in _ (by have := rhex_lt b; omega)
          go_region_with (go_at_call 27; refine (hexf_c b _ _ HQ.out).mono ?_; rintro e w1 ⟨rfl, rfl⟩)
          all_goals (
            go_wp2_with fail
            go_roundw
            case rel =>
              exact ⟨k + 1, _, by omega, by go_num, by rw [HRS.out]; unfold rstep; rw [if_neg HN45.out], by rw [HRS.out]; unfold rstep; rw [if_neg HN45.out, ← HN.out],
                (Below.heap_setCell _ _ _ _ (by simp)).trans H0.out, row_set0 H1.out _, (hbel.setCell (by simp) _).drew⟩
            case measure => simp [RowKit.intOf]; omega)
      · obtain rfl : k = sp l := by omega
        by_cases hend : sp l < l.length
        · have hat := sp_at l hend
          have hix : ∀ W : World, (Instr.index 9 (.string ⟨l.toArray⟩) (.int .i64 ((sp l : Nat) : Int))).run Tryd.prog W = .ok (.int .u8 32) W := fun W => by rw [run_sidx W l (sp l) hend, hat]; rfl
          have hb1 : ((sp l : Nat) : Int) < (l.length : Int) := by omega
          clear hat
          go_wp2_with fail
          go_meet
          exact ⟨rfl, rfl, H0.out, by rw [← HN.out]; exact H1.out, hbel⟩
        · have hb1 : ¬ ((sp l : Nat) : Int) < (l.length : Int) := by omega
          go_wp2_with fail
          go_meet
          exact ⟨rfl, rfl, H0.out, by rw [← HN.out]; exact H1.out, hbel⟩
  case rest =>
    obtain ⟨rfl, rfl, hr0, hr1, hbel⟩ := hcut
    have H0 := Lib.hid hr0
    have H1 := Lib.hid hr1
    have hni := rnum_int (l.take (sp l))
    obtain ⟨x, hx⟩ : ∃ x, x = rnum (l.take (sp l)) := ⟨_, rfl⟩
    rw [← hx] at hni hr1 H1 ⊢
    obtain ⟨m, n⟩ := x
    dsimp only at hni hr1 H1 ⊢
    have HN := Lib.hid hx
    have c10 : wc.cell? ⟨w.heap.size + 1, 0, none⟩ = some (.int .i64 n) := cell_of_row wc (w.heap.size + 1) 0 _ _ _ hr1
    have f10 := frozen0 hr1 0
    have hnb : -9223372036854775808 ≤ n ∧ n ≤ 9223372036854775807 := hni
    obtain ⟨hn0, hn1⟩ := hnb
    clear hx hni hr0 hr1
    go_upto_if 33 with (fail)
    go_cut [5] (fun i wx => i = .int .i64 (sp l : Int) ∧ wx.heap[w.heap.size]? = some (.cells #[.int .i64 0, .slice none 0 0] 36 (0, 0)) ∧
      wx.heap[w.heap.size + 1]? = some (.cells #[.int .i64 (rcall l).1, .slice none 0 0] 36 (0, 0)) ∧ Below w.heap.size w wx)
    case first =>
      cases m
      · have hc : (rcall l).1 = wrap64 (-n) := by unfold rcall rctl; rw [← HN.out, if_neg (by simp)]
        have HC := Lib.hid hc; clear hc
        go_wp2_with fail
        go_meet
        exact ⟨rfl, (Below.heap_setCell wc ⟨w.heap.size + 1, 0, none⟩ (.int .i64 (wrap64 (-n))) _ (by simp)).trans H0.out, by rw [HC.out]; exact row_set0 H1.out (.int .i64 (wrap64 (-n))), hbel.setCell (p := ⟨w.heap.size + 1, 0, none⟩) (by simp) (.int .i64 (wrap64 (-n)))⟩
      · have hc : (rcall l).1 = n := by unfold rcall rctl; rw [← HN.out, if_pos rfl]
        have HC := Lib.hid hc; clear hc
        go_wp2_with fail
        go_meet
        exact ⟨rfl, H0.out, by rw [HC.out]; exact H1.out, hbel⟩
    case rest =>
      clear H0 H1 HN c10 f10 hn0 hn1 hbel
      obtain ⟨rfl, hr0, hr1, hbel⟩ := hcut
      have R0 := Lib.hid hr0
      have R1 := Lib.hid hr1
      have RB := Lib.hid hbel
      have RZ := Lib.hid (two_le hbel hr1)
      clear hr0 hr1 hbel
      go_wp2_with fail
      go_loopw [5] (fun i wr => ∃ (j i0 : Nat) (v : Value), i = .int .i64 (i0 : Int) ∧ i0 = sp l + 1 + 2 * j ∧ i0 ≤ l.length + 2 ∧ wr.heap[w.heap.size]? = some (.cells #[.int .i64 0, .slice none 0 0] 36 (0, 0)) ∧
          wr.heap[w.heap.size + 1]? = some (.cells #[.int .i64 (rcall l).1, v] 36 (0, 0)) ∧ OwnB wr (w.heap.size + 2) v (rbytes ((l.drop (sp l + 1)).take (2 * j))) ∧ Below w.heap.size w wr ∧ w.heap.size + 2 ≤ wr.heap.size) (fun i _ => l.length + 3 - (RowKit.intOf i).toNat)
      case atStart => exact ⟨0, sp l + 1, _, by go_num, rfl, by omega, R0.out, R1.out, OwnG.nil _ _ 5 1, RB.out, RZ.out⟩
      case round =>
        clear R0 R1 RB RZ
        obtain ⟨j, i0, v, rfl, hi0, hjl, hr0, hr1, hown, hbel, hzz⟩ := hrel
        have HO := Lib.hid hown
        have H0 := Lib.hid hr0
        have H1 := Lib.hid hr1
        have HI := Lib.hid hi0; clear hi0
        have c11 : wr.cell? ⟨w.heap.size + 1, 1, none⟩ = some v := cell_of_row wr (w.heap.size + 1) 1 _ _ _ hr1
        have f11 := frozen0 hr1 1
        obtain ⟨vA, vc, hv⟩ := OwnG.slice hown
        have HV := Lib.hid hv
        have c10 : wr.cell? ⟨w.heap.size + 1, 0, none⟩ = some (.int .i64 (rcall l).1) := cell_of_row wr (w.heap.size + 1) 0 _ _ _ hr1
        have d0 : wr.cell? ⟨w.heap.size, 0, none⟩ = some (.int .i64 0) := cell_of_row wr w.heap.size 0 _ _ _ hr0
        have d1 : wr.cell? ⟨w.heap.size, 1, none⟩ = some (.slice none 0 0) := cell_of_row wr w.heap.size 1 _ _ _ hr0
        have e0 := frozen0 hr0 0
        have e1 := frozen0 hr0 1
        clear hown hr0 hr1 hv
        by_cases hlt : i0 + 1 < l.length
        · have hk1 : i0 < l.length := by omega
          obtain ⟨x, hx⟩ : ∃ x : UInt8, x = l[i0] := ⟨_, rfl⟩
          obtain ⟨y, hy⟩ : ∃ y : UInt8, y = l[i0 + 1] := ⟨_, rfl⟩
          have hrs := rbytes_step l (sp l + 1) j i0 HI.out hlt
          rw [← hx, ← hy] at hrs
          have hlen : (rbytes ((l.drop (sp l + 1)).take (2 * j))).length ≤ 2000000 := by
            have := rbytes_le ((l.drop (sp l + 1)).take (2 * j)); simp at this; omega
          have HL := Lib.hid hlen; clear hlen
          obtain ⟨q1, hq1⟩ : ∃ q : Int, q = (x.toNat : Int) := ⟨_, rfl⟩
          obtain ⟨q2, hq2⟩ : ∃ q : Int, q = (y.toNat : Int) := ⟨_, rfl⟩
          have hix1 : ∀ W : World, (Instr.index 9 (.string ⟨l.toArray⟩) (.int .i64 (i0 : Int))).run Tryd.prog W = .ok (.int .u8 q1) W := fun W => by rw [run_sidx W l i0 hk1, ← hx, hq1]
          have hix2 : ∀ W : World, (Instr.index 9 (.string ⟨l.toArray⟩) (.int .i64 ((i0 : Int) + 1))).run Tryd.prog W = .ok (.int .u8 q2) W := fun W => by
            rw [show ((i0 : Int) + 1) = ((i0 + 1 : Nat) : Int) by omega, run_sidx W l (i0 + 1) hlt, ← hy, hq2]
          have hlt' : (i0 : Int) + 1 < (l.length : Int) := by omega
          have hzz' : w.heap.size + 1 < wr.heap.size := by omega
          have hwr : IntKind.i64.wrap ((i0 : Int) + 1) = (i0 : Int) + 1 := IntWalk.i64_in _ (by omega)
          obtain ⟨z, hz⟩ : ∃ z : UInt8, z = UInt8.ofNat (16 * rhex x + rhex y) := ⟨_, rfl⟩
          rw [← hz] at hrs
          have HRS := Lib.hid hrs
          have HX := Lib.hid hq1
          have HY := Lib.hid hq2
          have HZ := Lib.hid hz
          clear hx hy hrs hq1 hq2 hz hlt
          have hor : bits .or .u8 (rhex x * 16) (rhex y) = (z.toNat : Int) := or_hex HZ.out
          have hsh : IntKind.u8.wrap ((rhex x : Int) * 16) = (rhex x : Int) * 16 := IntWalk.u8_in ((rhex x : Int) * 16) (by have := rhex_lt x; omega)
          go_wp2_with fail
          go_region_law (first
            | (refine step_append_B (m := [z]) rfl (.tmp 48) (.tmp 60) (by rfl) (by rfl) (OwnG.alloc HO.out _) (by rfl) (fun j hj => by have : j = 0 := (by simpa using hj); subst this; simp [Addr.add]) (by have := HL.out; simp only [List.length_cons, List.length_nil]; omega) (by simp; omega) ?_; intro v' w3 hown3 hgr3; obtain ⟨vA3, vc3, rfl⟩ := OwnG.slice hown3; have r13 := row_after HO.out hgr3 H1.out (by omega); have r03 := row_after HO.out hgr3 H0.out (by omega); have c13 : w3.cell? ⟨w.heap.size + 1, 1, none⟩ = some v := cell_of_row w3 (w.heap.size + 1) 1 _ _ _ r13; have f13 := frozen0 r13 1; have R13 := Lib.hid r13; have R03 := Lib.hid r03; have HO3 := Lib.hid hown3; have HB3 := Lib.hid (grown_below'' hbel HO.out (by omega) hgr3); clear r13 r03 hown3 hgr3)
            | (go_simp; go_at_call 27; (first | (with_reducible refine (hexf_c x _ _ HX.out).mono ?_) | (with_reducible refine (hexf_c y _ _ HY.out).mono ?_)); rintro e w1 ⟨rfl, rfl⟩))
          all_goals (
            go_wp2_with fail
            go_roundw
            case rel =>
              exact ⟨j + 1, i0 + 2, _, by go_num, by have := HI.out; omega, by omega, (Below.heap_setCell _ _ _ _ (by simp)).trans R03.out, row_set1 R13.out _,
                ownB_next HRS.out HO3.out, HB3.out.1.setCell (by simp) _, by have := HB3.out.2; simp only [World.setCell, Array.size_modify]; omega⟩
            case measure => simp [RowKit.intOf]; omega)
        · have hall := rbytes_all j (l.drop (sp l + 1)) (by have := HI.out; simp; omega)
          rw [hall] at HO HV
          have HO' := HO
          have hv := HV.out
          subst hv
          clear hall HV
          have hlt' : ¬ (i0 : Int) + 1 < (l.length : Int) := by omega
          have hzz' : w.heap.size + 1 < wr.heap.size := by omega
          go_wp2_with fail
          refine bodyPost_ret (v := .agg #[.int .i64 (rcall l).1, .slice vA (rbytes (l.drop (sp l + 1))).length vc]) (by simp [results, Tryd.results19, go_sem, d0, d1]) rfl ⟨_, rfl, ?_, (hbel.setCell (by simp) _).setCell (by simp) _⟩
          have h1 := OwnG.setCell HO'.out (p := ⟨w.heap.size, 0, none⟩) (fun h' => by have := (OwnG.lt HO'.out _ h').1; simp at this; omega) (.int .i64 (rcall l).1)
          have h2 := OwnG.setCell h1 (p := ⟨w.heap.size, 1, none⟩) (fun h' => by have := (OwnG.lt h1 _ h').1; simp at this; omega) (.slice vA (rbytes (l.drop (sp l + 1))).length vc)
          exact OwnG.low h2 (by omega)
end Go.Proofs.Scr
