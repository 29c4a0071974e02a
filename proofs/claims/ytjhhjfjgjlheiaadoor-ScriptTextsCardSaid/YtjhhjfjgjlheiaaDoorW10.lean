import Derived.Test.YtjhhjfjgjlheiaaDoorW9
import Derived.Test.YtjhhjfjgjlheiaaDoorW8
import Derived.Defers
import Derived.Recover
import Derived.Deep.RegionHeld3
namespace Go.Proofs.Scr
open Go Go.RowKit

theorem pcall_some (l : List UInt8) (b o : Nat) (i : Int) (c : Int × List UInt8) (w : World) (hE : Env w) (hl : l.length ≤ 1000000) (hc : w.cell? ⟨b, o, none⟩ = some (.int .i64 i)) (h : pcall l = some c) :
    Calls Tryd.prog 26 #[.pointer (some ⟨b, o, none⟩), .string ⟨l.toArray⟩] w fun e w' => (∃ dv, e = .returned (.agg #[.int .i64 c.1, dv]) ∧ OwnB w' w.heap.size dv c.2) ∧ Below w.heap.size w w' :=
  (pcall_any l b o i w hE hl hc).mono fun e w' hp => by
    obtain ⟨⟨c', dv, h1, h2, h3⟩ | ⟨h1, _⟩, hb⟩ := hp
    · rw [h] at h1; cases h1; exact ⟨⟨dv, h2, h3⟩, hb⟩
    · rw [h] at h1; cases h1
theorem pcall_none (l : List UInt8) (b o : Nat) (i : Int) (w : World) (hE : Env w) (hl : l.length ≤ 1000000) (hc : w.cell? ⟨b, o, none⟩ = some (.int .i64 i)) (h : pcall l = none) :
    Calls Tryd.prog 26 #[.pointer (some ⟨b, o, none⟩), .string ⟨l.toArray⟩] w fun e w' => e = .panicked [{ v := wrongAt i, recovered := false }] ∧ Below w.heap.size w w' :=
  (pcall_any l b o i w hE hl hc).mono fun e w' hp => by
    obtain ⟨⟨c', dv, h1, h2, h3⟩ | ⟨h1, h2⟩, hb⟩ := hp
    · rw [h] at h1; cases h1
    · exact ⟨h2, hb⟩

def LPost (l : List UInt8) (w : World) (e : Ending) (w' : World) : Prop :=
  (∃ o, Reads l o ∧ match o with
    | .ok L => ∃ v, e = .returned (.tuple #[v, .int .i64 0, .bool true]) ∧ CallsAt w' v L
    | .bad i => e = .returned (.tuple #[.slice none 0 0, .int .i64 (i : Int), .bool false])) ∧ Below w.heap.size w w'

/-- the four cells of the frame, and what was there -/
def Frm (w wr : World) (v : Value) (i : Int) (b : Bool) (n : Int) : Prop :=
  wr.heap[w.heap.size]? = some (.cells #[v] 22) ∧ wr.heap[w.heap.size + 1]? = some (.cells #[.int .i64 i] 3) ∧ wr.heap[w.heap.size + 1 + 1]? = some (.cells #[.bool b] 4) ∧ wr.heap[w.heap.size + 1 + 1 + 1]? = some (.cells #[.int .i64 n] 56) ∧ Below w.heap.size w wr ∧ w.heap.size + 4 ≤ wr.heap.size

theorem Frm.below {w wr w1 : World} {v : Value} {i : Int} {b : Bool} {n : Int} (h : Frm w wr v i b n) (hb : Below wr.heap.size wr w1) : Frm w w1 v i b n := by
  obtain ⟨h0, h1, h2, h3, h4, h5⟩ := h
  exact ⟨(hb.block _ (by omega)).trans h0, (hb.block _ (by omega)).trans h1, (hb.block _ (by omega)).trans h2, (hb.block _ (by omega)).trans h3, h4.trans (hb.mono (by omega)), by have := hb.size; omega⟩

theorem Frm.cells {w wr : World} {v : Value} {i : Int} {b : Bool} {n : Int} (h : Frm w wr v i b n) : wr.cell? ⟨w.heap.size, 0, none⟩ = some v ∧ wr.cell? ⟨w.heap.size + 1, 0, none⟩ = some (.int .i64 i) ∧ wr.cell? ⟨w.heap.size + 1 + 1, 0, none⟩ = some (.bool b) ∧ wr.cell? ⟨w.heap.size + 1 + 1 + 1, 0, none⟩ = some (.int .i64 n) ∧
    wr.frozen? ⟨w.heap.size, 0, none⟩ = false ∧ wr.frozen? ⟨w.heap.size + 1, 0, none⟩ = false ∧ wr.frozen? ⟨w.heap.size + 1 + 1, 0, none⟩ = false ∧ wr.frozen? ⟨w.heap.size + 1 + 1 + 1, 0, none⟩ = false := by
  obtain ⟨h0, h1, h2, h3, _, _⟩ := h
  exact ⟨cell_of_row _ _ 0 _ _ _ h0, cell_of_row _ _ 0 _ _ _ h1, cell_of_row _ _ 0 _ _ _ h2, cell_of_row _ _ 0 _ _ _ h3, frozen0 h0 0, frozen0 h1 0, frozen0 h2 0, frozen0 h3 0⟩

theorem row_one {w : World} {g : Nat} {a : Value} {t : TypeId} (h : w.heap[g]? = some (.cells #[a] t (0, 0))) (v : Value) : (w.setCell ⟨g, 0, none⟩ v).heap[g]? = some (.cells #[v] t (0, 0)) := by
  rw [setCell_eq_setRow w g 0 _ t _ v h, setRow_heap w g _ _ t _ h]; rfl
theorem row_off {w : World} {g g' : Nat} {o : Obj} (h : w.heap[g']? = some o) (hne : g' ≠ g) (v : Value) : (w.setCell ⟨g, 0, none⟩ v).heap[g']? = some o :=
  (Below.heap_setCell _ _ _ _ hne).trans h
theorem set_size (w : World) (p : Addr) (v : Value) : (w.setCell p v).heap.size = w.heap.size := by simp only [World.setCell, Array.size_modify]

theorem Frm.set0 {w wr : World} {v : Value} {i : Int} {b : Bool} {n : Int} (h : Frm w wr v i b n) (u : Value) : Frm w (wr.setCell ⟨w.heap.size, 0, none⟩ u) u i b n := by
  obtain ⟨h0, h1, h2, h3, h4, h5⟩ := h
  exact ⟨row_one h0 u, row_off h1 (by omega) u, row_off h2 (by omega) u, row_off h3 (by omega) u, h4.setCell (by simp) _, by rw [set_size]; omega⟩
theorem Frm.set1 {w wr : World} {v : Value} {i : Int} {b : Bool} {n : Int} (h : Frm w wr v i b n) (u : Int) : Frm w (wr.setCell ⟨w.heap.size + 1, 0, none⟩ (.int .i64 u)) v u b n := by
  obtain ⟨h0, h1, h2, h3, h4, h5⟩ := h
  exact ⟨row_off h0 (by omega) _, row_one h1 _, row_off h2 (by omega) _, row_off h3 (by omega) _, h4.setCell (by simp) _, by rw [set_size]; omega⟩
theorem Frm.set2 {w wr : World} {v : Value} {i : Int} {b : Bool} {n : Int} (h : Frm w wr v i b n) (u : Bool) : Frm w (wr.setCell ⟨w.heap.size + 1 + 1, 0, none⟩ (.bool u)) v i u n := by
  obtain ⟨h0, h1, h2, h3, h4, h5⟩ := h
  exact ⟨row_off h0 (by omega) _, row_off h1 (by omega) _, row_one h2 _, row_off h3 (by omega) _, h4.setCell (by simp; omega) _, by rw [set_size]; omega⟩
theorem Frm.set3 {w wr : World} {v : Value} {i : Int} {b : Bool} {n : Int} (h : Frm w wr v i b n) (u : Int) : Frm w (wr.setCell ⟨w.heap.size + 1 + 1 + 1, 0, none⟩ (.int .i64 u)) v i b u := by
  obtain ⟨h0, h1, h2, h3, h4, h5⟩ := h
  exact ⟨row_off h0 (by omega) _, row_off h1 (by omega) _, row_off h2 (by omega) _, row_one h3 _, h4.setCell (by simp; omega) _, by rw [set_size]; omega⟩
theorem Frm.own {w wr : World} {v : Value} {L : List (Int × List UInt8)} (h : OwnC wr (w.heap.size + 4) v L) (g : Nat) (hg : g < w.heap.size + 4) (u : Value) : OwnC (wr.setCell ⟨g, 0, none⟩ u) (w.heap.size + 4) v L :=
  h.kept fun k hk _ => Below.heap_setCell _ _ _ _ (show k ≠ g by omega)

theorem OwnC.low {w : World} {base base' : Nat} {v : Value} {L : List (Int × List UInt8)} (h : OwnC w base v L) (hb : base' ≤ base) : OwnC w base' v L := by
  obtain ⟨vs, hv, hown, hx⟩ := h
  exact ⟨vs, hv, hown.low hb, fun j h1 h2 => ⟨OwnG.low (hx j h1 h2).1 hb, (hx j h1 h2).2⟩⟩
theorem Frm.grown {w wr W w3 : World} {v : Value} {i : Int} {b : Bool} {n : Int} {L : List (Int × List UInt8)} (h : Frm w wr v i b n) (hW : Below wr.heap.size wr W) (hown : OwnC wr (w.heap.size + 4) v L) (hgr : W.grownBy w3 v.ownBlock) : Frm w w3 v i b n := by
  have hs := hW.size
  obtain ⟨h0, h1, h2, h3, h4, h5⟩ := h
  have hg := OwnC.grown (hown.low (by omega)) h4 hW hgr
  have row : ∀ k, k < w.heap.size + 4 → w3.heap[k]? = wr.heap[k]? := fun k hk =>
    (hgr.block k (by omega) (fun e => by have := (hown.lt k e.symm).1; omega)).trans (hW.block k (by omega))
  exact ⟨(row _ (by omega)).trans h0, (row _ (by omega)).trans h1, (row _ (by omega)).trans h2, (row _ (by omega)).trans h3, hg.1, by have := hg.2; omega⟩

theorem alloc_size (w : World) (o : Obj) : (w.alloc o).heap.size = w.heap.size + 1 := by simp
theorem Frm.first (w : World) : Frm w ((((w.alloc (.cells #[.slice none 0 0] 22)).alloc (.cells #[.int .i64 0] 3)).alloc (.cells #[.bool false] 4)).alloc (.cells #[.int .i64 0] 56)) (.slice none 0 0) 0 false 0 := by
  obtain ⟨w1, h1⟩ : ∃ w1, w1 = w.alloc (.cells #[.slice none 0 0] 22) := ⟨_, rfl⟩
  obtain ⟨w2, h2⟩ : ∃ w2, w2 = w1.alloc (.cells #[.int .i64 0] 3) := ⟨_, rfl⟩
  obtain ⟨w3, h3⟩ : ∃ w3, w3 = w2.alloc (.cells #[.bool false] 4) := ⟨_, rfl⟩
  rw [← h1, ← h2, ← h3]
  have s1 : w1.heap.size = w.heap.size + 1 := by rw [h1]; exact alloc_size _ _
  have s2 : w2.heap.size = w.heap.size + 1 + 1 := by rw [h2, ← s1]; exact alloc_size _ _
  have s3 : w3.heap.size = w.heap.size + 1 + 1 + 1 := by rw [h3, ← s2]; exact alloc_size _ _
  have r0 : w1.heap[w.heap.size]? = some (.cells #[.slice none 0 0] 22) := by rw [h1]; exact h_new _ _
  have r1 : w2.heap[w.heap.size + 1]? = some (.cells #[.int .i64 0] 3) := by rw [h2, ← s1]; exact h_new _ _
  have r2 : w3.heap[w.heap.size + 1 + 1]? = some (.cells #[.bool false] 4) := by rw [h3, ← s2]; exact h_new _ _
  have G : Below w.heap.size w (w3.alloc (.cells #[.int .i64 0] 56)) := by
    refine Below.alloc ?_ (by omega) _
    rw [h3]; refine Below.alloc ?_ (by omega) _
    rw [h2]; refine Below.alloc ?_ (by omega) _
    rw [h1]; exact (Below.refl _ _).alloc (Nat.le_refl _) _
  refine ⟨?_, ?_, ?_, ?_, G, ?_⟩
  · rw [h_old w3 _ _ (by omega), h3, h_old w2 _ _ (by omega), h2, h_old w1 _ _ (by omega)]; exact r0
  · rw [h_old w3 _ _ (by omega), h3, h_old w2 _ _ (by omega)]; exact r1
  · rw [h_old w3 _ _ (by omega)]; exact r2
  · rw [← s3]; exact h_new _ _
  · rw [alloc_size]; omega

set_option maxRecDepth 100000 in
set_option maxHeartbeats 3200000 in
theorem lines_any (l : List UInt8) (w : World) (hE : Env w) (hl : l.length ≤ 1000000) :
    Calls Tryd.prog 18 #[.string ⟨l.toArray⟩] w (LPost l w) := by
  have hmf : ∀ (fn : Fn) (first cap : Array Value) (w : World), (Instr.makeFunc fn first cap).run Tryd.prog w = .ok (.func fn first cap) w := fun _ _ _ _ => rfl
  have hfirst := Lib.hid (Frm.first w)
  have HE := Lib.hid hE
  clear hE
  go_enter_defers Tryd.func18, Tryd.ntmps18
  go_wp2_with fail
  go_loopg [0] (l.length) (fun g s wr => ∃ (r : List UInt8) (L : List (Int × List UInt8)) (v : Value), s = .string ⟨r.toArray⟩ ∧ l = fmt L ++ r ∧ Valid L ∧ r.length ≤ g ∧ OwnC wr (w.heap.size + 4) v L ∧ Frm w wr v 0 false L.length)
  case atStart => exact ⟨l, [], _, rfl, rfl, fun c h => by simp at h, Nat.le_refl _, OwnC.nil _ _, hfirst.out⟩
  case round =>
    obtain ⟨r, L, v, rfl, hrl, hval, hrg, hown, hfrm⟩ := hrel
    obtain ⟨oA, oc, rfl⟩ := hown.slice
    have HR := Lib.hid hrl
    have HV := Lib.hid hval
    have HO := Lib.hid hown
    have HF := Lib.hid hfrm
    have hrn : r.length ≤ 1000000 := by rw [hrl] at hl; simp at hl; omega
    have hLn : L.length ≤ 1000000 := by have := (fmt_le L).1; rw [hrl] at hl; simp at hl; omega
    have hsz := hfrm.2.2.2.2.2
    clear hrl hval hown hfrm
    obtain ⟨c0, c1, c2, c3, f0, f1, f2, f3⟩ := HF.out.cells
    by_cases hr0 : r = []
    · subst hr0
      go_wp2_with fail
      refine leaves_cons (f := 23) (args := #[.pointer (some ⟨w.heap.size, 0, none⟩), .pointer (some ⟨w.heap.size + 1, 0, none⟩), .pointer (some ⟨w.heap.size + 1 + 1, 0, none⟩)]) (by simp) (by simp [go_sem]) ?_
      refine (catch_idle w.heap.size (w.heap.size + 1) (w.heap.size + 1 + 1) _).mono ?_
      rintro e u' W ⟨rfl, rfl, hW⟩
      have HFW := ((HF.out.set0 (.slice oA L.length oc)).set1 0).set2 true
      have HOW := Frm.own (Frm.own (Frm.own HO.out w.heap.size (by omega) (.slice oA L.length oc)) (w.heap.size + 1) (by omega) (.int .i64 0)) (w.heap.size + 1 + 1) (by omega) (.bool true)
      rw [← hW] at HFW HOW
      clear hW c0 c1 c2 c3 f0 f1 f2 f3
      obtain ⟨c0, c1, c2, _⟩ := HFW.cells
      have hpost : LPost l w (.returned (.tuple #[.slice oA L.length oc, .int .i64 0, .bool true])) W :=
        ⟨⟨.ok L, ⟨by have := HR.out; simpa using this, HV.out⟩, _, rfl, HOW.callsAt hLn⟩, HFW.2.2.2.2.1⟩
      simp [Leaves, settle, results, Tryd.results18, go_sem, c0, c1, c2]
      exact hpost
    · have hrz : r.isEmpty = false := by simpa using hr0
      have hrz' : (!r.isEmpty) = true := by rw [hrz]; rfl
      obtain ⟨one, rest, ok, hcut⟩ : ∃ a r' c, Lib.cut r [10] = (a, r', c) := ⟨_, _, _, rfl⟩
      obtain ⟨hn1, hn2⟩ := cut_le hcut
      have HCUT := Lib.hid hcut
      clear hcut
      have HE1 : Hid (Env wr) := Lib.hid (HE.out.below HF.out.2.2.2.2.1)
      go_wp2_with fail
      refine (cut_c r one rest 10 ok _ HE1.out (by omega) HCUT.out).mono ?_
      rintro e w1 ⟨rfl, hb1⟩
      have HF1 := Lib.hid (HF.out.below hb1)
      have HO1 := Lib.hid (HO.out.below hb1)
      clear c0 c1 c2 c3 f0 f1 f2 f3
      obtain ⟨c0, c1, c2, c3, f0, f1, f2, f3⟩ := HF1.out.cells
      have HE2 : Hid (Env w1) := Lib.hid (HE1.out.below hb1)
      cases ok with
      | false =>
        go_wp2_with (go_at_call 25; refine (need_bad (w.heap.size + 1 + 1 + 1) 0 _ _ c3).mono ?_; rintro e w3' ⟨rfl, rfl⟩)
        refine leaves_cons (f := 23) (args := #[.pointer (some ⟨w.heap.size, 0, none⟩), .pointer (some ⟨w.heap.size + 1, 0, none⟩), .pointer (some ⟨w.heap.size + 1 + 1, 0, none⟩)]) (by simp) (by simp [go_sem]) ?_
        refine (catch_panicking w.heap.size (w.heap.size + 1) (w.heap.size + 1 + 1) L.length [] _ c0 c1 c2 f0 f1 f2 (by omega) (by omega) (by omega)).mono ?_
        rintro e u' W ⟨rfl, rfl, hW⟩
        have HFW := ((HF1.out.set0 (.slice none 0 0)).set1 L.length).set2 false
        rw [← hW] at HFW
        clear hW c0 c1 c2 c3 f0 f1 f2 f3
        obtain ⟨c0, c1, c2, _⟩ := HFW.cells
        have hpost : LPost l w (.returned (.tuple #[.slice none 0 0, .int .i64 L.length, .bool false])) W :=
          ⟨⟨.bad L.length, ⟨L, r, HR.out, HV.out, rfl, hr0, step_bad HCUT.out (.inl rfl)⟩, rfl⟩, HFW.2.2.2.2.1⟩
        simp [Leaves, settle, results, Tryd.results18, go_sem, c0, c1, c2]
        exact hpost
      | true =>
        go_wp2_with (go_at_call 25; refine (need_ok _ _).mono ?_; rintro e w3' ⟨rfl, rfl⟩)
        have hz1 : w.heap.size + 4 ≤ w1.heap.size := HF1.out.2.2.2.2.2
        cases hp : pcall one with
        | none =>
          have HP := Lib.hid hp
          clear hp
          refine wp_region_any (by kernel_rfl) ?_
          change wpAny _ _ _ _ _ _ _ (World.drew _)
          refine wpAny_ready (rs := [0, 1]) (by kernel_rfl) (by simp) ?_
          refine AllReady.cons rfl (fun K hK => ?_) (AllReady.cons rfl (fun K hK => ?_) AllReady.nil)
          · go_simp
            refine hK _ _ ?_
            clear hK K
            refine wpAny_ready (rs := [1]) (by kernel_rfl) (by simp) ?_
            refine AllReady.cons rfl (fun K hK => ?_) AllReady.nil
            go_simp
            refine hK _ _ ?_
            clear hK K
            refine wpAny_ready (rs := [2]) (by kernel_rfl) (by simp) ?_
            refine AllReady.cons rfl (fun K hK => ?_) AllReady.nil
            go_simp
            go_at_call 26
            refine (pcall_none one (w.heap.size + 1 + 1 + 1) 0 _ _ (HE2.out.below (Below.refl _ _).drew) (by omega) (by simpa using c3) HP.out).mono ?_
            rintro e w2 ⟨rfl, hb2⟩
            have HB2 := Lib.hid (HF1.out.below ((Below.refl _ _).drew.trans (hb2.mono (by simp))))
            clear c0 c1 c2 c3 f0 f1 f2 f3
            obtain ⟨c0, c1, c2, c3, f0, f1, f2, f3⟩ := HB2.out.cells
            refine leaves_cons (f := 23) (args := #[.pointer (some ⟨w.heap.size, 0, none⟩), .pointer (some ⟨w.heap.size + 1, 0, none⟩), .pointer (some ⟨w.heap.size + 1 + 1, 0, none⟩)]) (by simp) (by simp [go_sem]) ?_
            refine (catch_panicking w.heap.size (w.heap.size + 1) (w.heap.size + 1 + 1) L.length [] _ c0 c1 c2 f0 f1 f2 (by omega) (by omega) (by omega)).mono ?_
            rintro e u' W ⟨rfl, rfl, hW⟩
            have HFW := ((HB2.out.set0 (.slice none 0 0)).set1 L.length).set2 false
            rw [← hW] at HFW
            clear hW c0 c1 c2 c3 f0 f1 f2 f3
            obtain ⟨c0, c1, c2, _⟩ := HFW.cells
            have hpost : LPost l w (.returned (.tuple #[.slice none 0 0, .int .i64 L.length, .bool false])) W :=
              ⟨⟨.bad L.length, ⟨L, r, HR.out, HV.out, rfl, hr0, step_bad HCUT.out (.inr HP.out)⟩, rfl⟩, HFW.2.2.2.2.1⟩
            simp [Leaves, settle, results, Tryd.results18, go_sem, c0, c1, c2]
            exact hpost
          · go_simp
            refine hK _ _ ?_
            clear hK K
            refine wpAny_ready (rs := [0, 2]) (by kernel_rfl) (by simp) ?_
            refine AllReady.cons rfl (fun K hK => ?_) (AllReady.cons rfl (fun K hK => ?_) AllReady.nil)
            · go_simp
              refine hK _ _ ?_
              clear hK K
              refine wpAny_ready (rs := [2]) (by kernel_rfl) (by simp) ?_
              refine AllReady.cons rfl (fun K hK => ?_) AllReady.nil
              go_simp
              go_at_call 26
              refine (pcall_none one (w.heap.size + 1 + 1 + 1) 0 _ _ (HE2.out.below (Below.refl _ _).drew) (by omega) (by simpa using c3) HP.out).mono ?_
              rintro e w2 ⟨rfl, hb2⟩
              have HB2 := Lib.hid (HF1.out.below ((Below.refl _ _).drew.trans (hb2.mono (by simp))))
              clear c0 c1 c2 c3 f0 f1 f2 f3
              obtain ⟨c0, c1, c2, c3, f0, f1, f2, f3⟩ := HB2.out.cells
              refine leaves_cons (f := 23) (args := #[.pointer (some ⟨w.heap.size, 0, none⟩), .pointer (some ⟨w.heap.size + 1, 0, none⟩), .pointer (some ⟨w.heap.size + 1 + 1, 0, none⟩)]) (by simp) (by simp [go_sem]) ?_
              refine (catch_panicking w.heap.size (w.heap.size + 1) (w.heap.size + 1 + 1) L.length [] _ c0 c1 c2 f0 f1 f2 (by omega) (by omega) (by omega)).mono ?_
              rintro e u' W ⟨rfl, rfl, hW⟩
              have HFW := ((HB2.out.set0 (.slice none 0 0)).set1 L.length).set2 false
              rw [← hW] at HFW
              clear hW c0 c1 c2 c3 f0 f1 f2 f3
              obtain ⟨c0, c1, c2, _⟩ := HFW.cells
              have hpost : LPost l w (.returned (.tuple #[.slice none 0 0, .int .i64 L.length, .bool false])) W :=
                ⟨⟨.bad L.length, ⟨L, r, HR.out, HV.out, rfl, hr0, step_bad HCUT.out (.inr HP.out)⟩, rfl⟩, HFW.2.2.2.2.1⟩
              simp [Leaves, settle, results, Tryd.results18, go_sem, c0, c1, c2]
              exact hpost
            · go_simp
              go_at_call 26
              refine (pcall_none one (w.heap.size + 1 + 1 + 1) 0 _ _ (HE2.out.below (Below.refl _ _).drew) (by omega) (by simpa using c3) HP.out).mono ?_
              rintro e w2 ⟨rfl, hb2⟩
              have HB2 := Lib.hid (HF1.out.below ((Below.refl _ _).drew.trans (hb2.mono (by simp))))
              clear c0 c1 c2 c3 f0 f1 f2 f3
              obtain ⟨c0, c1, c2, c3, f0, f1, f2, f3⟩ := HB2.out.cells
              refine leaves_cons (f := 23) (args := #[.pointer (some ⟨w.heap.size, 0, none⟩), .pointer (some ⟨w.heap.size + 1, 0, none⟩), .pointer (some ⟨w.heap.size + 1 + 1, 0, none⟩)]) (by simp) (by simp [go_sem]) ?_
              refine (catch_panicking w.heap.size (w.heap.size + 1) (w.heap.size + 1 + 1) L.length [] _ c0 c1 c2 f0 f1 f2 (by omega) (by omega) (by omega)).mono ?_
              rintro e u' W ⟨rfl, rfl, hW⟩
              have HFW := ((HB2.out.set0 (.slice none 0 0)).set1 L.length).set2 false
              rw [← hW] at HFW
              clear hW c0 c1 c2 c3 f0 f1 f2 f3
              obtain ⟨c0, c1, c2, _⟩ := HFW.cells
              have hpost : LPost l w (.returned (.tuple #[.slice none 0 0, .int .i64 L.length, .bool false])) W :=
                ⟨⟨.bad L.length, ⟨L, r, HR.out, HV.out, rfl, hr0, step_bad HCUT.out (.inr HP.out)⟩, rfl⟩, HFW.2.2.2.2.1⟩
              simp [Leaves, settle, results, Tryd.results18, go_sem, c0, c1, c2]
              exact hpost
        | some c =>
          have hst := step_ok HCUT.out hp
          have HST := Lib.hid hst.1
          have HCI := Lib.hid hst.2
          have HP := Lib.hid hp
          have hrl' : rest.length < r.length := by
            have := congrArg List.length hst.1
            have := line_le c
            simp at *; omega
          have hcl : c.2.length ≤ 1000000 := by
            have := congrArg List.length hst.1
            have := line_le c
            simp at *; omega
          clear hst hp
          refine wp_region_noPanic ?_
          go_region_law (first
            | (refine step_append_C (c := c) (dv := .slice dA c.2.length dc) rfl (.tmp 20) (.tmp 23) (by rfl) (by rfl) (HO2.out.below ((Below.refl _ _).alloc (Nat.le_refl _) _)) (by rfl) (two_cells _ _ _ _) (OwnG.below HD2.out ((Below.refl _ _).alloc (Nat.le_refl _) _)) hcl hLn (by have := HB2.out.2.2.2.2.2; simp; omega) ?_; intro v' w3 hown3 hgr3 hge3; have HO3 := Lib.hid hown3; have HF3 := Lib.hid (HB2.out.grown ((Below.refl _ _).alloc (Nat.le_refl _) _) HO2.out hgr3); obtain ⟨A3, cc3, rfl⟩ := hown3.slice; obtain ⟨e0, e1, e2, e3, y0, y1, y2, y3⟩ := HF3.out.cells; clear hown3 hgr3)
            | (go_simp; go_at_call 26; refine (pcall_some one (w.heap.size + 1 + 1 + 1) 0 _ c _ (HE2.out.below (Below.refl _ _).drew) (by omega) (by simpa using c3) HP.out).mono ?_; rintro e w2 ⟨⟨dv, rfl, hdv⟩, hb2⟩; obtain ⟨dA, dc, rfl⟩ := OwnG.slice hdv; have HO2 := Lib.hid (HO1.out.below ((Below.refl _ _).drew.trans (hb2.mono (by simp)))); have HD2 := Lib.hid (OwnG.low hdv (show w.heap.size + 4 ≤ _ by simp; omega)); have HB2 := Lib.hid (HF1.out.below ((Below.refl _ _).drew.trans (hb2.mono (by simp)))); obtain ⟨d0, d1, d2, d3, z0, z1, z2, z3⟩ := HB2.out.cells; have hq2 : w.heap.size < w2.heap.size := (by have := HB2.out.2.2.2.2.2; omega); clear hdv hb2))
          all_goals
            refine NoPanic.normal ?_
            have hlen : (L ++ [c]).length = L.length + 1 := by simp
            have HO4 := HO3.out
            rw [hlen] at HO4
            have HO5 := Lib.hid HO4
            have HF4 := Lib.hid (HF3.out.set0 (.slice A3 (L.length + 1) cc3))
            have HF5 := Lib.hid (HF4.out.set3 ((L.length : Int) + 1))
            clear c0 c1 c2 c3 f0 f1 f2 f3 d0 d1 d2 d3 z0 z1 z2 z3 hlen HO4
            go_wp2_with fail
            go_roundg rest.length
            case measure => omega
            case rel =>
              refine ⟨rest, L ++ [c], _, rfl, ?_, ?_, Nat.le_refl _, Frm.own (Frm.own HO5.out _ (by omega) _) _ (by omega) _, ?_⟩
              · rw [fmt_append, fmt, fmt, List.append_nil, List.append_assoc, ← HST.out]; exact HR.out
              · intro d hd
                rcases List.mem_append.1 hd with hd | hd
                · exact HV.out d hd
                · rw [List.mem_singleton.1 hd]; exact HCI.out
              · have hlen : ((L ++ [c]).length : Int) = (L.length : Int) + 1 := by simp
                rw [hlen]; exact HF5.out
end Go.Proofs.Scr
