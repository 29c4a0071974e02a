/- A slice of calls that the call itself makes: what it owns, and append onto it. -/
import Derived.Test.YtjhhjfjgjlheiaaDoorW5
namespace Go.Proofs.Scr
open Go Go.RowKit

/-- the cells of calls, their byte slices being 'vs' -/
def callCells : List (Int × List UInt8) → List Value → List Value
  | c :: L, v :: vs => .int .i64 c.1 :: v :: callCells L vs
  | _, _ => []
theorem callCells_length : ∀ (L : List (Int × List UInt8)) (vs : List Value), vs.length = L.length → (callCells L vs).length = L.length * 2
  | [], [], _ => rfl
  | c :: L, v :: vs, h => by simp only [callCells, List.length_cons]; rw [callCells_length L vs (by simpa using h)]; omega
theorem callCells_snoc : ∀ (L : List (Int × List UInt8)) (vs : List Value) (c : Int × List UInt8) (v : Value), vs.length = L.length → callCells (L ++ [c]) (vs ++ [v]) = callCells L vs ++ [.int .i64 c.1, v]
  | [], [], c, v, _ => rfl
  | d :: L, u :: vs, c, v, h => by simp only [List.cons_append, callCells]; rw [callCells_snoc L vs c v (by simpa using h)]
theorem callCells_get : ∀ (L : List (Int × List UInt8)) (vs : List Value) (h : vs.length = L.length) (j : Nat) (hj : j < L.length),
    (callCells L vs)[j * 2]? = some (.int .i64 L[j].1) ∧ (callCells L vs)[j * 2 + 1]? = some (vs[j]'(by omega))
  | c :: L, v :: vs, h, 0, _ => by simp [callCells]
  | c :: L, v :: vs, h, j + 1, hj => by
    have := callCells_get L vs (by simpa using h) j (by simpa using hj)
    rw [show (j + 1) * 2 = j * 2 + 1 + 1 by omega]
    simpa [callCells] using this

/-- a slice of calls of the call's own -/
def OwnC (w : World) (base : Nat) (v : Value) (L : List (Int × List UInt8)) : Prop :=
  ∃ vs : List Value, vs.length = L.length ∧ OwnG w base 36 2 v L.length (callCells L vs) ∧ ∀ j (h : j < L.length) (h' : j < vs.length), OwnB w base vs[j] L[j].2 ∧ L[j].2.length ≤ 1000000

theorem OwnC.nil (w : World) (base : Nat) : OwnC w base (.slice none 0 0) [] := ⟨[], rfl, OwnG.nil w base 36 2, fun j h => absurd h (by simp)⟩

theorem OwnC.slice {w : World} {base : Nat} {v : Value} {L : List (Int × List UInt8)} (h : OwnC w base v L) : ∃ A c, v = .slice A L.length c := by
  obtain ⟨vs, _, hown, _⟩ := h
  exact OwnG.slice hown

theorem OwnC.callsAt {w : World} {base : Nat} {v : Value} {L : List (Int × List UInt8)} (h : OwnC w base v L) (hl : L.length ≤ 1000000) : CallsAt w v L := by
  obtain ⟨vs, hv, hown, hb⟩ := h
  rcases Nat.eq_zero_or_pos L.length with h0 | h0
  · obtain ⟨A, c, rfl⟩ := OwnG.slice hown
    exact ⟨A, c, rfl, by omega, fun hp => absurd hp (by omega)⟩
  · obtain ⟨g, cap, rfl, _, _⟩ := OwnG.form hown h0
    refine ⟨_, cap, rfl, by omega, fun _ => ⟨_, rfl, fun j hj => ?_⟩⟩
    have hadd : (⟨g, 0, none⟩ : Addr).add (j * 2) = ⟨g, j * 2, none⟩ := by unfold Addr.add; split <;> simp_all
    obtain ⟨h1, h2⟩ := callCells_get L vs hv j hj
    rw [hadd]
    exact ⟨OwnG.cells hown rfl _ _ h1, _, OwnG.cells hown rfl _ _ h2, (hb j hj (by omega)).1.bytesAt (by have := (hb j hj (by omega)).2; omega)⟩

theorem OwnC.kept {w w' : World} {base : Nat} {v : Value} {L : List (Int × List UInt8)} (h : OwnC w base v L) (hb : ∀ k, base ≤ k → k < w.heap.size → w'.heap[k]? = w.heap[k]?) : OwnC w' base v L := by
  obtain ⟨vs, hv, hown, hx⟩ := h
  exact ⟨vs, hv, hown.kept fun k hk => hb k (hown.lt k hk).1 (hown.lt k hk).2, fun j h1 h2 => ⟨OwnG.kept (hx j h1 h2).1 fun k hk => hb k (OwnG.lt (hx j h1 h2).1 k hk).1 (OwnG.lt (hx j h1 h2).1 k hk).2, (hx j h1 h2).2⟩⟩
theorem OwnC.below {w w' : World} {base : Nat} {v : Value} {L : List (Int × List UInt8)} (h : OwnC w base v L) (hb : Below w.heap.size w w') : OwnC w' base v L := h.kept fun k _ hk => hb.block k hk

theorem own_types {w : World} {b b' : Nat} {e e' : TypeId} {s s' n n' : Nat} {v v' : Value} {xs xs' : List Value} (h : OwnG w b e s v n xs) (h' : OwnG w b' e' s' v' n' xs') (hne : e ≠ e') : ∀ k, v.ownBlock = some k → v'.ownBlock ≠ some k := by
  intro k hk hk'
  rcases h.2 with ⟨rfl, _⟩ | ⟨g, cap, cur, fz, rfl, _, hh, _⟩
  · simp [Value.ownBlock] at hk
  · rcases h'.2 with ⟨rfl, _⟩ | ⟨g', cap', cur', fz', rfl, _, hh', _⟩
    · simp [Value.ownBlock] at hk'
    · simp [Value.ownBlock] at hk hk'
      subst hk hk'
      rw [hh] at hh'
      injection hh' with hh'
      injection hh' with _ ht
      exact hne ht

section
variable {w W : World} {base : Nat} {v dv : Value} {L : List (Int × List UInt8)} {c : Int × List UInt8} {ad : Addr} {cp : Nat} {o : Oper} {a : Act}

/-- 'append(l, c)' in the world W, that has grown out of w -/
theorem wp_append_C {K : Act → World → Prop} {Q : Exit → Act → World → Prop} (s x : Operand) (ho : o.op = .call { callee := .builtin .append, args := #[s, x], argTypes := #[22, 22] })
    (hs : a.eval s = v) (hown : OwnC W base v L) (hx : a.eval x = .slice (some ad) 1 cp) (hm : ∀ j u, [Value.int .i64 c.1, dv][j]? = some u → W.cell? (ad.add j) = some u)
    (hdv : OwnB W base dv c.2) (hcl : c.2.length ≤ 1000000)
    (hlen : L.length ≤ 1000000) (hbase : base ≤ W.heap.size)
    (h : ∀ v' w', OwnC w' base v' (L ++ [c]) → W.grownBy w' v.ownBlock → (∀ k, v.ownBlock = some k → base ≤ k) → K (a.put o.dst v') w') : o.wp Tryd.prog a W K Q := by
  obtain ⟨i0, hi, hz0, hz1, hz2⟩ := info_parts info36
  obtain ⟨vs, hv, hg, hbs⟩ := hown
  obtain ⟨A', c', rfl⟩ := OwnG.slice hdv
  refine wp_append_G W s x 22 ho base 36 i0 (.agg #[.int .i64 0, .slice none 0 0]) 2 32 Tryd.underlying22 hi hz0 hz1 hz2 rfl (by omega) v L.length (callCells L vs) hs hg ad 1 cp [.int .i64 c.1, .slice A' c.2.length c'] hx (by simp)
    hm (fun u hu => by simp at hu; rcases hu with rfl | rfl <;> rfl) (by unfold maxLen; omega) (by omega) hbase ?_
  intro v' w' h1 h2
  refine h v' w' ⟨vs ++ [.slice A' c.2.length c'], by simp [hv], ?_, ?_⟩ h2 (fun k hk => (hg.lt k hk).1)
  · rw [callCells_snoc L vs c _ hv, List.length_append]; exact h1
  · have keep : ∀ (u : Value) (d : List UInt8), OwnB W base u d → OwnB w' base u d := fun u d hu =>
      OwnG.kept hu fun k hk => h2.block k (OwnG.lt hu k hk).2 (fun e => own_types hu hg (by decide) k hk e.symm)
    intro j hj hj'
    rcases Nat.lt_or_ge j L.length with hlt | hge
    · have := hbs j hlt (by omega)
      simp only [List.getElem_append_left hlt, List.getElem_append_left (show j < vs.length by omega)]
      exact ⟨keep _ _ this.1, this.2⟩
    · have hjl : j = L.length := by simp at hj; omega
      subst hjl
      simp only [List.getElem_append_right (Nat.le_refl _), Nat.sub_self, List.getElem_cons_zero]
      have : (vs ++ [Value.slice A' c.2.length c'])[L.length]'hj' = .slice A' c.2.length c' := by
        rw [List.getElem_append_right (by omega)]; simp [hv]
      rw [this]
      exact ⟨keep _ _ hdv, hcl⟩

theorem step_append_C {ops : Array Oper} {K : Act → World → Prop} {Q : Exit → Act → World → Prop} {E : Prop} (hgd : o.guard = none) (s x : Operand) (ho : o.op = .call { callee := .builtin .append, args := #[s, x], argTypes := #[22, 22] })
    (hs : a.eval s = v) (hown : OwnC W base v L) (hx : a.eval x = .slice (some ad) 1 cp) (hm : ∀ j u, [Value.int .i64 c.1, dv][j]? = some u → W.cell? (ad.add j) = some u)
    (hdv : OwnB W base dv c.2) (hcl : c.2.length ≤ 1000000)
    (hlen : L.length ≤ 1000000) (hbase : base ≤ W.heap.size)
    (h : ∀ v' w', OwnC w' base v' (L ++ [c]) → W.grownBy w' v.ownBlock → (∀ k, v.ownBlock = some k → base ≤ k) → K (a.put o.dst v') w') : if Region.wanted o (yielded ops a.tmps) = true then Oper.wp Tryd.prog o a W K Q else E := by
  rw [if_pos (by simp [Region.wanted, hgd])]
  exact wp_append_C s x ho hs hown hx hm hdv hcl hlen hbase h
end
end Go.Proofs.Scr
