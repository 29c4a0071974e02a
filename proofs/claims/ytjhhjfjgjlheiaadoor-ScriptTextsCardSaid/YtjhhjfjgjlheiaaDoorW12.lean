/- Walks: the law's short: a script cut to eight requests of thirty bytes. -/
import Derived.Test.YtjhhjfjgjlheiaaDoorW11
namespace Go.Proofs.Scr
open Go Go.RowKit

/-- bytes in memory, with room up to a capacity -/
def BytesC (w : World) (v : Value) (d : List UInt8) : Prop := ∃ A c, v = .slice A d.length c ∧ d.length ≤ c ∧ (0 < d.length → ∃ ad, A = some ad ∧ ∀ j (h : j < d.length), w.cell? (ad.add j) = some (.int .u8 (d[j].toNat : Int)))
/-- calls in memory, with capacities -/
def CallsC (w : World) (v : Value) (L : List (Int × List UInt8)) : Prop :=
  ∃ A c, v = .slice A L.length c ∧ L.length ≤ c ∧ (0 < L.length → ∃ ad, A = some ad ∧ ∀ j (h : j < L.length),
    w.cell? (ad.add (j * 2)) = some (.int .i64 L[j].1) ∧ ∃ dv, w.cell? ⟨(ad.add (j * 2)).block, (ad.add (j * 2)).off + 1, none⟩ = some dv ∧ BytesC w dv L[j].2)

theorem BytesC.below {w w' : World} {v : Value} {d : List UInt8} (h : BytesC w v d) (hb : Below w.heap.size w w') : BytesC w' v d := by
  obtain ⟨A, c, h1, h2, h3⟩ := h
  refine ⟨A, c, h1, h2, fun hp => ?_⟩
  obtain ⟨ad, hA, hx⟩ := h3 hp
  exact ⟨ad, hA, fun j hj => (hb.cell (World.block_lt_of_cell? w _ (hx j hj))).trans (hx j hj)⟩
theorem BytesC.at {w : World} {v : Value} {d : List UInt8} (h : BytesC w v d) (hl : d.length ≤ 4611686018427387904) : BytesAt w v d := by
  obtain ⟨A, c, h1, h2, h3⟩ := h
  exact ⟨A, c, h1, hl, h3⟩

theorem BytesC.cut {w : World} {d : List UInt8} {A : Option Addr} {c : Nat} (h : BytesC w (.slice A d.length c) d) (n : Nat) : BytesC w (.slice A (d.take n).length c) (d.take n) := by
  obtain ⟨A', c', h1, h2, h3⟩ := h
  cases h1
  refine ⟨A, c, rfl, by simp; omega, fun hp => ?_⟩
  obtain ⟨ad, hA, hx⟩ := h3 (by simp at hp; omega)
  refine ⟨ad, hA, fun j hj => ?_⟩
  have hj' : j < d.length := by simp at hj; omega
  rw [List.getElem_take]
  exact hx j hj'

def cutc (c : Int × List UInt8) : Int × List UInt8 := (c.1, c.2.take 30)
def cutL (L : List (Int × List UInt8)) : List (Int × List UInt8) := (L.take 8).map cutc

/-- the cells of the first calls -/
theorem CallsC.news {w : World} {ad : Addr} {L : List (Int × List UInt8)} (h : ∀ j (h : j < L.length),
    w.cell? (ad.add (j * 2)) = some (.int .i64 L[j].1) ∧ ∃ dv, w.cell? ⟨(ad.add (j * 2)).block, (ad.add (j * 2)).off + 1, none⟩ = some dv ∧ BytesC w dv L[j].2) (n : Nat) (hn : n ≤ L.length) :
    ∃ news : List Value, news.length = n * 2 ∧ (∀ j u, news[j]? = some u → w.cell? (ad.add j) = some u) ∧ (∀ u ∈ news, u.oneCell' = true) ∧
      ∀ j (hj : j < n), news[j * 2]? = some (.int .i64 (L[j]'(by omega)).1) ∧ ∃ dv, news[j * 2 + 1]? = some dv ∧ BytesC w dv (L[j]'(by omega)).2 := by
  induction n with
  | zero => exact ⟨[], rfl, fun j u hu => by simp at hu, fun u hu => by simp at hu, fun j hj => by omega⟩
  | succ n ih =>
    obtain ⟨news, h1, h2, h3, h4⟩ := ih (by omega)
    obtain ⟨k1, dv, k2, k3⟩ := h n (by omega)
    refine ⟨news ++ [.int .i64 L[n].1, dv], by simp [h1]; omega, ?_, ?_, ?_⟩
    · intro j u hu
      rcases Nat.lt_or_ge j (n * 2) with hj | hj
      · rw [List.getElem?_append_left (by omega)] at hu
        exact h2 j u hu
      · rw [List.getElem?_append_right (by omega), h1] at hu
        have hj2 : j - n * 2 < 2 := by
          rcases Nat.lt_or_ge (j - n * 2) 2 with h' | h'
          · exact h'
          · rw [List.getElem?_eq_none (by simpa using h')] at hu; cases hu
        rcases (by omega : j = n * 2 ∨ j = n * 2 + 1) with rfl | rfl
        · simp at hu; rw [← hu]; exact k1
        · simp at hu
          rw [← hu, ← k2]
          congr 1
          obtain ⟨ab, ao, asp⟩ := ad
          by_cases hn0 : n * 2 = 0
          · simp [Addr.add, hn0]
          · simp only [Addr.add, if_neg hn0, if_neg (show ¬ n * 2 + 1 = 0 by omega)]; rfl
    · intro u hu
      rcases List.mem_append.1 hu with hu | hu
      · exact h3 u hu
      · obtain ⟨A, c, rfl, _⟩ := k3
        simp at hu
        rcases hu with rfl | rfl <;> rfl
    · intro j hj
      rcases Nat.lt_or_ge j n with hj' | hj'
      · obtain ⟨e1, dv', e2, e3⟩ := h4 j hj'
        exact ⟨by rw [List.getElem?_append_left (by omega)]; exact e1, dv', by rw [List.getElem?_append_left (by omega)]; exact e2, e3⟩
      · obtain rfl : j = n := by omega
        exact ⟨by rw [List.getElem?_append_right (by omega), h1]; simp, dv, by rw [List.getElem?_append_right (by omega), h1]; simp, k3⟩

theorem wpList_append_fresh {ops : Array Oper} {rest : List Oper} {o : Oper} {a : Act} {w : World} {Q : Exit → Act → World → Prop} (hgd : o.guard = none) (s x : Operand)
    (ho : o.op = .call { callee := .builtin .append, args := #[s, x], argTypes := #[22, 22] })
    (g0 base : Nat) (hb0 : base ≤ g0) (hs : a.eval s = .slice (some ⟨g0, 0, none⟩) 0 0) (hg0 : w.heap[g0]? = some (.cells #[] 36 (0, 0)))
    (ad : Addr) (m c : Nat) (hm0 : 0 < m) (news : List Value) (hx : a.eval x = .slice (some ad) m c) (hl : news.length = m * 2) (hnews : ∀ j u, news[j]? = some u → w.cell? (ad.add j) = some u) (h1 : ∀ u ∈ news, u.oneCell' = true)
    (h63 : m ≤ 1000)
    (h : ∀ g cap cur w', base ≤ g → w'.heap[g]? = some (.cells cur 36 (0, 0)) → cur.toList.take (m * 2) = news → cur.size = cap * 2 → m ≤ cap → Below base w w' → wpList Tryd.prog ops Q rest (a.put o.dst (.slice (some ⟨g, 0, none⟩) m cap)) w') :
    wpList Tryd.prog ops Q (o :: rest) a w := by
  obtain ⟨i0, hi, hz0, hz1, hz2⟩ := info_parts info36
  have hsz : g0 < w.heap.size := (Array.getElem?_eq_some_iff.1 hg0).1
  refine wpList_plain hgd fun K hK => ?_
  obtain ⟨v', w', hr, h2, h3, _⟩ := run_append_own (P := Tryd.prog) w base 22 o.type 36 i0 (.agg #[.int .i64 0, .slice none 0 0]) 2 32 Tryd.underlying22 hi hz0 hz1 hz2 rfl (by omega) (.slice (some ⟨g0, 0, none⟩) 0 0) 0 []
    ⟨rfl, .inr ⟨g0, 0, #[], rfl, hb0, hg0, Nat.le_refl _, by unfold maxLen; omega, rfl, rfl⟩⟩ ad m c news hl hnews h1 (by unfold maxLen; omega) (by omega) (by omega)
  unfold Oper.wp execOp
  simp only [ho, resolve, invoke, builtin, Sem.run_bind, Sem.run_pure, Result.andThen_ok, List.map_toArray, List.map_cons, List.map_nil, hs, hx, hr]
  rw [Nat.zero_add, List.nil_append] at h2
  rcases h2.2 with ⟨_, h0⟩ | ⟨g, cap, cur, rfl, hb, hgg, hle, _, hcs, ht⟩
  · omega
  · have hB : Below base w w' := (Below.refl base w).grown h3 (by omega) (fun k hk => by simp [Value.ownBlock] at hk; omega)
    exact hK _ _ (h g cap cur w' hb hgg ht hcs hle hB)

theorem run_append_zero (g0 : Nat) (A : Option Addr) (c : Nat) (T : TypeId) (W : World) : (Builtin.append_ #[22, 22] T #[.slice (some ⟨g0, 0, none⟩) 0 0, .slice A 0 c]).run Tryd.prog W = .ok (.slice (some ⟨g0, 0, none⟩) 0 0) W := by
  obtain ⟨i0, hi, hz0, hz1, _⟩ := info_parts info36
  have hf : ∀ (a : Addr) (W : World), (loadCellsFrom a 0 0 #[]).run Tryd.prog W = .ok #[] W := fun _ _ => rfl
  have hs : ∀ W : World, (storeCells ⟨g0, 0, none⟩ [] ).run Tryd.prog W = .ok () W := fun _ => rfl
  cases A <;> simp [Builtin.append_, run_underlying Tryd.underlying22, sizeOf, typeInfo, hi, Builtin.lenOf, Result.andThen]
  all_goals (rw [hz1]; rfl)
theorem wpList_append_zero {ops : Array Oper} {rest : List Oper} {o : Oper} {a : Act} {w : World} {Q : Exit → Act → World → Prop} (hgd : o.guard = none) (s x : Operand)
    (ho : o.op = .call { callee := .builtin .append, args := #[s, x], argTypes := #[22, 22] })
    (g0 : Nat) (A : Option Addr) (c : Nat) (hs : a.eval s = .slice (some ⟨g0, 0, none⟩) 0 0) (hx : a.eval x = .slice A 0 c)
    (h : wpList Tryd.prog ops Q rest (a.put o.dst (.slice (some ⟨g0, 0, none⟩) 0 0)) w) :
    wpList Tryd.prog ops Q (o :: rest) a w := by
  refine wpList_plain hgd fun K hK => ?_
  have hr := run_append_zero g0 A c o.type w
  unfold Oper.wp execOp
  simp only [ho, resolve, invoke, builtin, Sem.run_bind, Sem.run_pure, Result.andThen_ok, List.map_toArray, List.map_cons, List.map_nil, hs, hx, hr]
  exact hK _ _ h

theorem slice_run22 (A : Option Addr) (n c : Nat) (k : Int) (m : Nat) (hk : k = (m : Int)) (hm : m ≤ c) (W : World) : (Instr.slice 22 (.slice A n c) none (some (.int .i64 k)) none).run Tryd.prog W = .ok (.slice A m c) W := by
  subst hk
  rw [run_slice_h W 22 A n c Tryd.underlying22 .i64 _ (by omega) (by omega)]
  have he : Tryd.prog.elem 22 = 36 := by kernel_rfl
  obtain ⟨i0, hi, hz0, hz1, _⟩ := info_parts info36
  have hm : A.map (fun x => x.add 0) = A := by cases A <;> simp [Addr.add]
  simp [sizeOf, typeInfo, he, hi, sliced, Result.andThen, hm]
theorem slice_run25 (A : Option Addr) (n c : Nat) (k : Int) (m : Nat) (hk : k = (m : Int)) (hm : m ≤ c) (W : World) : (Instr.slice 25 (.slice A n c) none (some (.int .i64 k)) none).run Tryd.prog W = .ok (.slice A m c) W := by
  subst hk
  rw [run_slice_h W 25 A n c Tryd.underlying25 .i64 _ (by omega) (by omega)]
  have he : Tryd.prog.elem 25 = 5 := by kernel_rfl
  obtain ⟨i0, hi, hz0, hz1, _⟩ := info_parts info5
  have hm : A.map (fun x => x.add 0) = A := by cases A <;> simp [Addr.add]
  simp [sizeOf, typeInfo, he, hi, sliced, Result.andThen, hm]

/-- the loop's state: the first k are cut -/
def SInv (w : World) (L : List (Int × List UInt8)) (n g k : Nat) (wr : World) : Prop :=
  ∃ cur, wr.heap[g]? = some (.cells cur 36 (0, 0)) ∧ n * 2 ≤ cur.size ∧ (∀ j (h : j < L.length), j < n → cur[j * 2]? = some (.int .i64 L[j].1) ∧ ∃ dv, cur[j * 2 + 1]? = some dv ∧ BytesC w dv (if j < k then L[j].2.take 30 else L[j].2)) ∧ Below w.heap.size w wr

theorem SInv.drew {w wr : World} {L : List (Int × List UInt8)} {n g k : Nat} (h : SInv w L n g k wr) : SInv w L n g k wr.drew := by
  obtain ⟨cur, h1, h2, h3, h4⟩ := h
  exact ⟨cur, h1, h2, h3, h4.drew⟩
theorem SInv.step {w wr : World} {L : List (Int × List UInt8)} {n g k : Nat} (h : SInv w L n g k wr) (hg : w.heap.size ≤ g) (hk : k < n) (hkL : k < L.length) :
    ∃ A c, wr.cell? ⟨g, k * 2 + 1, none⟩ = some (.slice A L[k].2.length c) ∧ wr.frozen? ⟨g, k * 2 + 1, none⟩ = false ∧ L[k].2.length ≤ c ∧
      SInv w L n g (k + 1) (wr.setCell ⟨g, k * 2 + 1, none⟩ (.slice A (L[k].2.take 30).length c)) := by
  obtain ⟨cur, h1, h2, h3, h4⟩ := h
  obtain ⟨e1, dv, e2, e3⟩ := h3 k hkL hk
  rw [if_neg (by omega)] at e3
  obtain ⟨A, c, rfl, hc, hB⟩ := e3
  have hcut := BytesC.cut ⟨A, c, rfl, hc, hB⟩ 30
  refine ⟨A, c, by rw [cell_of_row wr g _ cur _ _ h1]; exact e2, frozen0 h1 _, hc, cur.setIfInBounds (k * 2 + 1) (.slice A (L[k].2.take 30).length c), ?_, by simpa using h2, ?_, h4.setCell (by simpa using hg) _⟩
  · rw [setCell_eq_setRow wr g (k * 2 + 1) cur _ _ _ h1, setRow_heap wr g _ _ _ _ h1]
  · intro j hj hjn
    obtain ⟨f1, dv', f2, f3⟩ := h3 j hj hjn
    refine ⟨by rw [Array.getElem?_setIfInBounds_ne (by omega)]; exact f1, ?_⟩
    by_cases hjk : j = k
    · subst hjk
      refine ⟨_, by rw [Array.getElem?_setIfInBounds_self_of_lt (by omega)], ?_⟩
      rw [if_pos (by omega)]; exact hcut
    · refine ⟨dv', by rw [Array.getElem?_setIfInBounds_ne (by omega)]; exact f2, ?_⟩
      by_cases hlt : j < k
      · rw [if_pos (by omega)]; rwa [if_pos hlt] at f3
      · rw [if_neg (by omega)]; rwa [if_neg hlt] at f3

theorem SInv.done {w wr : World} {L : List (Int × List UInt8)} {n g cap : Nat} (hn : n = min L.length 8) (h : SInv w L n g n wr) : CallsAt wr (.slice (some ⟨g, 0, none⟩) n cap) (cutL L) ∧ Below w.heap.size w wr := by
  obtain ⟨cur, h1, h2, h3, h4⟩ := h
  have hlen : (cutL L).length = n := by simp [cutL]; omega
  refine ⟨⟨_, cap, by rw [hlen], by rw [hlen]; omega, fun _ => ⟨_, rfl, fun j hj => ?_⟩⟩, h4⟩
  rw [hlen] at hj
  have hjL : j < L.length := by omega
  obtain ⟨f1, dv, f2, f3⟩ := h3 j hjL hj
  rw [if_pos hj] at f3
  have hadd : (⟨g, 0, none⟩ : Addr).add (j * 2) = ⟨g, j * 2, none⟩ := by unfold Addr.add; split <;> simp_all
  have hget : (cutL L)[j]'(by rw [hlen]; exact hj) = cutc L[j] := by simp [cutL]
  rw [hadd, hget]
  have hB := (f3.below h4).at (by simp; omega)
  exact ⟨by rw [cell_of_row wr g _ cur _ _ h1]; exact f1, dv, by rw [cell_of_row wr g _ cur _ _ h1]; exact f2, hB⟩

set_option maxRecDepth 100000 in
set_option maxHeartbeats 3200000 in
theorem short_any (v : Value) (L : List (Int × List UInt8)) (w : World) (h : CallsC w v L) :
    Calls Tryd.prog 5 #[v] w fun e w' => ∃ v', e = .returned v' ∧ CallsAt w' v' (cutL L) ∧ Below w.heap.size w w' := by
  obtain ⟨A, c, rfl, hc, hx⟩ := h
  have HX := Lib.hid hx
  clear hx
  rcases Nat.eq_zero_or_pos L.length with h0 | h0
  · have hsl : ∀ W : World, (Instr.slice 22 (.slice A L.length c) none (some (.int .i64 0)) none).run Tryd.prog W = .ok (.slice A 0 c) W := fun W => slice_run22 A _ c _ 0 rfl (by omega) W
    have hmin : min (0 : Int) 8 = 0 := by decide
    rw [h0] at hsl ⊢
    have HL0 := Lib.hid h0
    clear h0 hc
    go_enter Tryd.func5, Tryd.ntmps5
    go_wp2_with (at_builtin; refine wpList_append_zero rfl (.tmp 4) (.tmp 9) rfl w.heap.size A c rfl rfl ?_)
    go_loopw [13] (fun i wr => i = .int .i64 0 ∧ wr = w.alloc (.cells #[] 36)) (fun i _ => 0)
    case atStart => exact ⟨rfl, rfl⟩
    case round =>
      obtain ⟨rfl, rfl⟩ := hrel
      go_wp2_with fail
      go_ret
      have hL0 : cutL L = [] := by have := List.eq_nil_of_length_eq_zero HL0.out; rw [this]; rfl
      exact ⟨_, rfl, by rw [hL0]; exact ⟨_, _, rfl, by simp, fun h => by simp at h⟩, (Below.refl _ _).alloc (Nat.le_refl _) _⟩
  · obtain ⟨ad, rfl, hx⟩ := HX.out h0
    obtain ⟨n, hn⟩ : ∃ n, n = min L.length 8 := ⟨_, rfl⟩
    have hnL : n ≤ L.length := by omega
    obtain ⟨news, hN1, hN2, hN3, hN4⟩ := CallsC.news hx n hnL
    have hsl : ∀ W : World, (Instr.slice 22 (.slice (some ad) L.length c) none (some (.int .i64 (min (L.length : Int) 8))) none).run Tryd.prog W = .ok (.slice (some ad) n c) W := fun W => slice_run22 _ _ c _ n (by omega) (by omega) W
    have HN1 := Lib.hid hN1
    have HN2 := Lib.hid hN2
    have HN3 := Lib.hid hN3
    have HN4 := Lib.hid hN4
    have HN := Lib.hid hn
    clear hN1 hN2 hN3 hN4 hx
    have hn0 : 0 < n := by omega
    have hn8 : n ≤ 8 := by omega
    clear hn
    have hg0 := h_new w (.cells #[] 36)
    have HN2' : Hid (∀ j u, news[j]? = some u → (w.alloc (.cells #[] 36)).cell? (ad.add j) = some u) := Lib.hid fun j u hu =>
      (((Below.refl _ _).alloc (Nat.le_refl _) _).cell (World.block_lt_of_cell? w _ (HN2.out j u hu))).trans (HN2.out j u hu)
    go_enter Tryd.func5, Tryd.ntmps5
    go_wp2_with (at_builtin; refine wpList_append_fresh rfl (.tmp 4) (.tmp 9) rfl w.heap.size w.heap.size (Nat.le_refl _) rfl hg0 ad n c hn0 news rfl HN1.out HN2'.out HN3.out (by omega) ?_)
    intro g cap cur w1 hg hrow htake hcs hcap hb1
    have hI0 : Hid (SInv w L n g 0 w1) := Lib.hid ⟨cur, hrow, by omega, fun j hj hjn => by
      have hget : ∀ q u, q < n * 2 → news[q]? = some u → cur[q]? = some u := by
        intro q u hq hu
        rw [← htake, List.getElem?_take_of_lt hq] at hu
        simpa using hu
      obtain ⟨e1, dv, e2, e3⟩ := HN4.out j hjn
      exact ⟨hget _ _ (by omega) e1, dv, hget _ _ (by omega) e2, by rw [if_neg (by omega)]; exact e3⟩, ((Below.refl _ _).alloc (Nat.le_refl _) _).trans hb1⟩
    clear hrow htake hcs hb1
    go_wp2_with fail
    go_loopw [13] (fun i wr => ∃ k : Nat, k ≤ n ∧ i = .int .i64 k ∧ SInv w L n g k wr) (fun i _ => n - (RowKit.intOf i).toNat)
    case atStart => exact ⟨0, Nat.zero_le _, rfl, hI0.out⟩
    case round =>
      obtain ⟨k, hk, rfl, hinv⟩ := hrel
      have HI := Lib.hid hinv
      clear hinv
      by_cases hlt : k < n
      · have hkL : k < L.length := by have := HN.out; omega
        obtain ⟨dA, dc, hc1, hf1, hdc, hnext⟩ := HI.out.step hg hlt hkL
        have HX := Lib.hid hnext
        have hsl2 : ∀ W : World, (Instr.slice 25 (.slice dA L[k].2.length dc) none (some (.int .i64 (min (L[k].2.length : Int) 30))) none).run Tryd.prog W = .ok (.slice dA (L[k].2.take 30).length dc) W := fun W => slice_run25 _ _ dc _ _ (by simp; omega) (by simp; omega) W
        obtain ⟨m, hm⟩ : ∃ m, m = L[k].2.length := ⟨_, rfl⟩
        obtain ⟨m', hm'⟩ : ∃ m', m' = (L[k].2.take 30).length := ⟨_, rfl⟩
        rw [← hm] at hc1 hsl2 hdc
        rw [← hm'] at hsl2 HX
        have hb1 : (k : Int) < (n : Int) := by omega
        clear hnext hm hm'
        go_wp2_with fail
        go_region_with fail
        all_goals (
          go_wp2_with fail
          go_roundw
          case rel => exact ⟨k + 1, by omega, by go_num, HX.out.drew⟩
          case measure => simp [RowKit.intOf]; omega)
      · obtain rfl : k = n := by omega
        have hb1 : ¬ (k : Int) < (k : Int) := by omega
        go_wp2_with fail
        go_ret
        have := SInv.done (cap := cap) HN.out HI.out
        exact ⟨_, rfl, this.1, this.2⟩
end Go.Proofs.Scr
