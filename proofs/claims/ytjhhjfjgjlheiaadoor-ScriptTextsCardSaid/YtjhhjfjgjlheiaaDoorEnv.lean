/- The library's calls (Itoa, Atoi, Cut, IndexByte, the Builder's methods) as this proof uses them: under what the package-level variables hold; each leaves all that was there. -/
import Derived.Test.YtjhhjfjgjlheiaaDoorMem
import Derived.WalkSmall
namespace Go.Proofs.Scr
open Go Go.RowKit
open Go.Lib (itoa decDigits)

/-- what the package-level variables hold -/
structure Env (w : World) : Prop where
  tab : Lib.TabIs Tryd.prog w "internal/strconv.uint64pow10" .u64 Lib.pow10Tab
  syn : ∃ tp p, w.var? Tryd.prog "strconv.ErrSyntax" = some #[.iface tp p]
  rng : ∃ tp p, w.var? Tryd.prog "strconv.ErrRange" = some #[.iface tp p]
  mx : ∃ m, w.cell? ⟨1, 0, none⟩ = some (.int .i64 m)
  big : 6 ≤ w.heap.size

theorem g0 : Tryd.prog.globalNamed "internal/strconv.uint64pow10" = some 0 := by kernel_rfl
theorem g2 : Tryd.prog.globalNamed "strconv.ErrSyntax" = some 2 := by kernel_rfl
theorem g3 : Tryd.prog.globalNamed "strconv.ErrRange" = some 3 := by kernel_rfl

theorem Env.below {w w1 : World} (h : Env w) (hb : Below w.heap.size w w1) : Env w1 := by
  obtain ⟨t, ⟨a, b, s⟩, ⟨c, d, r⟩, ⟨m, hm⟩, hb6⟩ := h
  exact ⟨var?_below hb g0 (by omega) t, ⟨a, b, var?_below hb g2 (by omega) s⟩, ⟨c, d, var?_below hb g3 (by omega) r⟩, ⟨m, cell_below hb hm⟩, by have := hb.size; omega⟩

theorem below_grow (w : World) (k : Nat) (os : Array Obj) : Below w.heap.size w (Sort.grow (w.drewN k) os) :=
  ⟨rfl, rfl, rfl, by show w.heap.size ≤ (w.heap ++ os).size; simp, fun i hi => by show (w.heap ++ os)[i]? = _; rw [Array.getElem?_append_left hi]⟩

theorem itoa_any (n : Int) (w : World) (hE : Env w) (h0 : -9223372036854775808 ≤ n) (h1 : n ≤ 9223372036854775807) :
    Calls Tryd.prog 14 #[.int .i64 n] w fun e w' => e = .returned (.string ⟨(itoa n).toArray⟩) ∧ Below w.heap.size w w' :=
  (Tryd.strconv_Itoa n h0 h1 w hE.tab).mono fun _ _ ⟨he, k, os, hw⟩ => ⟨he, by rw [hw]; exact below_grow w k os⟩

theorem cut_any (s sep : ByteArray) (w : World) (hE : Env w) (hs : s.size < 4294967281) :
    Calls Tryd.prog 24 #[.string s, .string sep] w fun e w' => e = .returned (.tuple #[.string ⟨(Lib.cut s.data.toList sep.data.toList).1.toArray⟩, .string ⟨(Lib.cut s.data.toList sep.data.toList).2.1.toArray⟩, .bool (Lib.cut s.data.toList sep.data.toList).2.2]) ∧ Below w.heap.size w w' := by
  obtain ⟨m, hm⟩ := hE.mx
  exact (Tryd.strings_Cut s sep m w hs hm).mono fun _ _ ⟨he, k, hw⟩ => ⟨he, by rw [hw]; exact below_drewN (Below.refl _ _) k⟩

theorem bytesWorld_below (w : World) (s : ByteArray) : Below w.heap.size w (Lib.bytesWorld w 5 s) :=
  ⟨rfl, rfl, rfl, by simp [Lib.bytesWorld, World.freeze, World.alloc, World.drew, -World.alloc_eq, -World.drew_eq], fun i hi => Lib.bytesWorld_at_old w 5 s i hi⟩

theorem atoi_ok (s : ByteArray) (w : World) (v : Int) (hs : s.size ≤ 1000000000) (h : Lib.atoiAll s.data.toList = .ok v) :
    Calls Tryd.prog 32 #[.string s] w fun e w' => e = .returned (.tuple #[.int .i64 v, .nilIface]) ∧ Below w.heap.size w w' :=
  (Tryd.strconv_Atoi_ok s (by omega) v h w).mono fun _ _ ⟨he, hw⟩ => ⟨he, by
    rcases hw with rfl | ⟨t, rfl⟩
    · exact Below.refl _ _
    · exact bytesWorld_below w t⟩

/-- it is no number, or none that is an int -/
theorem atoi_bad (s : ByteArray) (w : World) (hE : Env w) (hs : s.size ≤ 1000000000) (h : ∀ v, Lib.atoiAll s.data.toList ≠ .ok v) :
    Calls Tryd.prog 32 #[.string s] w fun e w' => ∃ n N, e = .returned (.tuple #[.int .i64 n, .iface 86 (.pointer (some ⟨N, 0, none⟩))]) ∧ Below w.heap.size w w' := by
  cases hc : Lib.atoiAll s.data.toList with
  | ok v => exact absurd hc (h v)
  | range =>
    obtain ⟨tp, p, hv⟩ := hE.rng
    exact (Tryd.strconv_Atoi_range_var s (by omega) hc tp p w hv).mono fun _ _ ⟨N, he, _, _, hb⟩ => ⟨_, N, he, hb⟩
  | _ =>
    obtain ⟨tp, p, hv⟩ := hE.syn
    exact (Tryd.strconv_Atoi_syntax_var s (by omega) hc tp p w hv).mono fun _ _ ⟨N, he, _, _, hb⟩ => ⟨_, N, he, hb⟩

end Go.Proofs.Scr
