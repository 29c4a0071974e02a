/- What calls and bytes are in memory: a byte slice that reads as a list of bytes, a slice of calls that reads as a list of calls; both stand where only new memory is made. The shapes of this program's types. -/
import Derived.Test.YtjhhjfjgjlheiaaDoorShelf
import Derived.Test.YtjhhjfjgjlheiaaDoorPlainRef
import Derived.Test.YtjhhjfjgjlheiaaDoorOwnG
import Derived.WalkKit
import Derived.WalkSpells
import Derived.Deep.RegionWith
import Derived.Deep.QuietTactic
import Derived.BigQuiet
import Derived.Deep.AppendLies
import Derived.Deep.RegionLaw
import Derived.Lib.Hide
namespace Go.Proofs.Scr
open Go Go.Lib Go.RowKit

/-- the byte slice v reads as d -/
def BytesAt (w : World) (v : Value) (d : List UInt8) : Prop :=
  ∃ A c, v = .slice A d.length c ∧ d.length ≤ 4611686018427387904 ∧ (0 < d.length → ∃ ad, A = some ad ∧ ∀ j (h : j < d.length), w.cell? (ad.add j) = some (.int .u8 (d[j].toNat : Int)))

/-- the slice of calls v reads as L -/
def CallsAt (w : World) (v : Value) (L : List (Int × List UInt8)) : Prop :=
  ∃ A c, v = .slice A L.length c ∧ L.length ≤ 2305843009213693952 ∧ (0 < L.length → ∃ ad, A = some ad ∧ ∀ j (h : j < L.length),
    w.cell? (ad.add (j * 2)) = some (.int .i64 L[j].1) ∧ ∃ dv, w.cell? ⟨(ad.add (j * 2)).block, (ad.add (j * 2)).off + 1, none⟩ = some dv ∧ BytesAt w dv L[j].2)

theorem cell_below {w w1 : World} (h : Below w.heap.size w w1) {a : Addr} {v : Value} (hc : w.cell? a = some v) : w1.cell? a = some v :=
  (h.cell (World.block_lt_of_cell? w a hc)).trans hc

theorem BytesAt.below {w w1 : World} {v : Value} {d : List UInt8} (h : BytesAt w v d) (hb : Below w.heap.size w w1) : BytesAt w1 v d := by
  obtain ⟨A, c, e, hl, hc⟩ := h
  refine ⟨A, c, e, hl, fun hp => ?_⟩
  obtain ⟨ad, ea, hx⟩ := hc hp
  exact ⟨ad, ea, fun j hj => cell_below hb (hx j hj)⟩

theorem CallsAt.below {w w1 : World} {v : Value} {L : List (Int × List UInt8)} (h : CallsAt w v L) (hb : Below w.heap.size w w1) : CallsAt w1 v L := by
  obtain ⟨A, c, e, hl, hc⟩ := h
  refine ⟨A, c, e, hl, fun hp => ?_⟩
  obtain ⟨ad, ea, hx⟩ := hc hp
  refine ⟨ad, ea, fun j hj => ?_⟩
  obtain ⟨h1, dv, h2, h3⟩ := hx j hj
  exact ⟨cell_below hb h1, dv, cell_below hb h2, h3.below hb⟩

theorem bytesAt_nil (w : World) : BytesAt w (.slice none 0 0) [] := ⟨none, 0, rfl, by simp, fun h => absurd h (by simp)⟩
theorem callsAt_nil (w : World) : CallsAt w (.slice none 0 0) [] := ⟨none, 0, rfl, by simp, fun h => absurd h (by simp)⟩

/-- 'string(b)' -/
theorem run_b2s (w : World) {v : Value} {d : List UInt8} (h : BytesAt w v d) : (convert 25 9 v).run Tryd.prog w = .ok (.string ⟨d.toArray⟩) w := by
  obtain ⟨A, c, rfl, _, hc⟩ := h
  rcases Nat.eq_zero_or_pos d.length with h0 | h0
  · have : d = [] := List.eq_nil_of_length_eq_zero h0
    subst this
    rw [run_convert_bytes_string w 25 9 5 A _ c Tryd.underlying25 Tryd.underlying5 Tryd.underlying9]
    cases A with
    | none => simp [Conv.bytesToString]; rfl
    | some a =>
      have := run_bytesToString (P := Tryd.prog) w a 0 c [] (by have := run_loadCells_list (P := Tryd.prog) w a [] (fun j v hj => by simp at hj); simpa using this)
      simp only [List.foldl_nil] at this
      exact this
  · obtain ⟨ad, rfl, hx⟩ := hc h0
    exact run_convert_bytes_back w 25 9 5 ad c d Tryd.underlying25 Tryd.underlying5 Tryd.underlying9 hx

theorem bcell {W w1 : World} (hb : Below W.heap.size W w1) : (∀ b o, b < W.heap.size → w1.cell? ⟨b, o, none⟩ = W.cell? ⟨b, o, none⟩) ∧ (∀ b o, b < W.heap.size → w1.frozen? ⟨b, o, none⟩ = W.frozen? ⟨b, o, none⟩) :=
  ⟨fun b o h => hb.cell (p := ⟨b, o, none⟩) h, fun b o h => hb.frozen (p := ⟨b, o, none⟩) h⟩

/-! ### bytes of the call's own -/
theorem info5 : (Tryd.prog.info? 5).map (fun i => (i.zero, i.size, i.bytes)) = some (some (.int .u8 0), 1, 1) := by kernel_rfl
theorem info36 : (Tryd.prog.info? 36).map (fun i => (i.zero, i.size, i.bytes)) = some (some (.agg #[.int .i64 0, .slice none 0 0]), 2, 32) := by kernel_rfl

def OwnB (w : World) (base : Nat) (v : Value) (l : List UInt8) : Prop := OwnG w base 5 1 v l.length (Lib.byteCells l)

theorem byteCells_get (l : List UInt8) (j : Nat) (u : Value) : (Lib.byteCells l)[j]? = some u ↔ ∃ h : j < l.length, u = .int .u8 (l[j].toNat : Int) := by
  unfold Lib.byteCells
  rw [List.getElem?_map]
  constructor
  · intro h
    rcases Nat.lt_or_ge j l.length with hj | hj
    · rw [List.getElem?_eq_getElem hj] at h
      simp only [Option.map_some, Option.some.injEq] at h
      exact ⟨hj, h.symm⟩
    · rw [List.getElem?_eq_none hj] at h
      simp at h
  · rintro ⟨hj, rfl⟩
    rw [List.getElem?_eq_getElem hj]; rfl

theorem OwnB.bytesAt {w : World} {base : Nat} {v : Value} {l : List UInt8} (h : OwnB w base v l) (hl : l.length ≤ 4611686018427387904) : BytesAt w v l := by
  rcases Nat.eq_zero_or_pos l.length with h0 | h0
  · obtain ⟨A, c, rfl⟩ := OwnG.slice h
    exact ⟨A, c, rfl, hl, fun hp => absurd hp (by omega)⟩
  · obtain ⟨g, cap, rfl, _, _⟩ := OwnG.form h h0
    refine ⟨_, cap, rfl, hl, fun _ => ⟨_, rfl, fun j hj => ?_⟩⟩
    have hadd : (⟨g, 0, none⟩ : Addr).add j = ⟨g, j, none⟩ := by unfold Addr.add; split <;> simp_all
    rw [hadd]
    exact OwnG.cells h rfl j _ ((byteCells_get l j _).2 ⟨hj, rfl⟩)

section
variable {w : World} {base : Nat} {v : Value} {l m : List UInt8} {ad : Addr} {c : Nat} {o : Oper} {a : Act}

theorem wp_append_B {K : Act → World → Prop} {Q : Exit → Act → World → Prop} (s x : Operand) (ho : o.op = .call { callee := .builtin .append, args := #[s, x], argTypes := #[25, 25] })
    (hs : a.eval s = v) (hown : OwnB w base v l) (hx : a.eval x = .slice (some ad) m.length c) (hm : ∀ j (h : j < m.length), w.cell? (ad.add j) = some (.int .u8 (m[j].toNat : Int)))
    (hlen : l.length + m.length ≤ 140737488355328) (hbase : base ≤ w.heap.size)
    (h : ∀ v' w', OwnB w' base v' (l ++ m) → w.grownBy w' v.ownBlock → K (a.put o.dst v') w') : o.wp Tryd.prog a w K Q := by
  obtain ⟨i0, hi, hz0, hz1, hz2⟩ := info_parts info5
  refine wp_append_G w s x 25 ho base 5 i0 (.int .u8 0) 1 1 Tryd.underlying25 hi hz0 hz1 hz2 rfl (by omega) v l.length (Lib.byteCells l) hs hown ad m.length c (Lib.byteCells m) hx (by simp [Lib.byteCells])
    (fun j u hj => by obtain ⟨h1, rfl⟩ := (byteCells_get m j u).1 hj; exact hm j h1) (fun u hu => by unfold Lib.byteCells at hu; obtain ⟨b, _, rfl⟩ := List.mem_map.1 hu; rfl) (by unfold maxLen; omega) (by omega) hbase ?_
  intro v' w' h1 h2
  exact h v' w' (by unfold OwnB; rw [List.length_append, show Lib.byteCells (l ++ m) = Lib.byteCells l ++ Lib.byteCells m by simp [Lib.byteCells]]; exact h1) h2

theorem wpList_append_B {ops : Array Oper} {rest : List Oper} {Q : Exit → Act → World → Prop} (hgd : o.guard = none) (s x : Operand) (ho : o.op = .call { callee := .builtin .append, args := #[s, x], argTypes := #[25, 25] })
    (hs : a.eval s = v) (hown : OwnB w base v l) (hx : a.eval x = .slice (some ad) m.length c) (hm : ∀ j (h : j < m.length), w.cell? (ad.add j) = some (.int .u8 (m[j].toNat : Int)))
    (hlen : l.length + m.length ≤ 140737488355328) (hbase : base ≤ w.heap.size)
    (h : ∀ v' w', OwnB w' base v' (l ++ m) → w.grownBy w' v.ownBlock → wpList Tryd.prog ops Q rest (a.put o.dst v') w') : wpList Tryd.prog ops Q (o :: rest) a w :=
  wpList_plain hgd fun _ hK => wp_append_B s x ho hs hown hx hm hlen hbase fun v' w' h1 h2 => hK _ _ (h v' w' h1 h2)

theorem step_append_B {ops : Array Oper} {K : Act → World → Prop} {Q : Exit → Act → World → Prop} {E : Prop} (hgd : o.guard = none) (s x : Operand) (ho : o.op = .call { callee := .builtin .append, args := #[s, x], argTypes := #[25, 25] })
    (hs : a.eval s = v) (hown : OwnB w base v l) (hx : a.eval x = .slice (some ad) m.length c) (hm : ∀ j (h : j < m.length), w.cell? (ad.add j) = some (.int .u8 (m[j].toNat : Int)))
    (hlen : l.length + m.length ≤ 140737488355328) (hbase : base ≤ w.heap.size)
    (h : ∀ v' w', OwnB w' base v' (l ++ m) → w.grownBy w' v.ownBlock → K (a.put o.dst v') w') : if Region.wanted o (yielded ops a.tmps) = true then Oper.wp Tryd.prog o a w K Q else E := by
  rw [if_pos (by simp [Region.wanted, hgd])]
  exact wp_append_B s x ho hs hown hx hm hlen hbase h
end

/-- '[]byte(s)': a new row of the call's own -/
theorem wpList_s2b {ops : Array Oper} {rest : List Oper} {o : Oper} {a : Act} {w : World} {Q : Exit → Act → World → Prop} (hgd : o.guard = none) (x : Operand) (ho : o.op = .convert 9 25 x) (s : ByteArray) (hx : a.eval x = .string s) (hs : s.size ≤ maxLen)
    (h : ∀ v' W', OwnB W' w.heap.size v' s.data.toList → Below w.heap.size w W' → w.heap.size < W'.heap.size → wpList Tryd.prog ops Q rest (a.put o.dst v') W') : wpList Tryd.prog ops Q (o :: rest) a w := by
  refine wpList_plain hgd fun K hK => ?_
  have hr := run_bytes_of_string (P := Tryd.prog) w 9 25 5 s Tryd.underlying9 Tryd.underlying25 Tryd.underlying5
  have hown := ownG_bytes w s 5 hs
  unfold Oper.wp execOp
  simp only [ho, Sem.run_bind, hx, hr, Result.andThen_ok]
  refine hK _ _ (h _ _ ?_ ((Below.refl _ _).drew.alloc (Nat.le_refl _) _) (by simp))
  have e : s.data.toList.length = s.size := rfl
  unfold OwnB
  rw [e]
  exact hown

/-- a digit out of '0123456789abcdef' -/
theorem hex_at : ∀ m : Fin 16, ((⟨#[48, 49, 50, 51, 52, 53, 54, 55, 56, 57, 97, 98, 99, 100, 101, 102]⟩ : ByteArray)[m.val]'(m.isLt)) = hexd m.val := by decide +kernel
theorem run_hex (w : World) (q : Int) (h0 : 0 ≤ q) (h1 : q < 16) : (Instr.index 9 (.string ⟨#[48, 49, 50, 51, 52, 53, 54, 55, 56, 57, 97, 98, 99, 100, 101, 102]⟩) (.int .u8 q)).run Tryd.prog w = .ok (.int .u8 ((hexd q.toNat).toNat : Int)) w := by
  have := hex_at ⟨q.toNat, by omega⟩
  simp only at this
  simp [go_sem, h0, h1, this]

theorem bsize_arr (a : Array UInt8) : (⟨a⟩ : ByteArray).size = a.size := rfl
theorem ret_str {a b : List UInt8} (h : a = b) : Ending.returned (.string ⟨a.toArray⟩) = .returned (.string ⟨b.toArray⟩) := by rw [h]

end Go.Proofs.Scr
