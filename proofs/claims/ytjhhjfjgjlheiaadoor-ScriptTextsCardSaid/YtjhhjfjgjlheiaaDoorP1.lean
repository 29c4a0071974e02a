/- Rows: what the row's premises give the walks: the package-level variables, the scripts among the arguments. -/
import Derived.Test.YtjhhjfjgjlheiaaDoorRows
import Derived.Test.YtjhhjfjgjlheiaaDoorW12
import Derived.ProofKit
import Derived.LaidMore
import Derived.Stop.LaidErr
import Derived.Lib.LaidTab
import Derived.Shelf.Vars
import Derived.HandedShaped
import Derived.OpenShut
import Derived.Deep.SlicePairs
namespace Go.Proofs.Scr
open Go Go.ChangeShapes Go.WideShapes Go.ChangeAt Go.RowKit

/-- the wrap, with what the row lists and with the world's shape -/
theorem returnsInHanded_of_and_shaped {H : Type} {enc : TypeId × Value → H} {a : Assume} {C : Checked} {os : Os} {f : FuncId} {fn : Func} {s : ChangeSpec} {conds : List PathCond} {apart fresh handsOn again : Bool} {X : World → Array Value → Prop}
    (hX : ∀ (w w' : World) (args : Array Value), w.heap = w'.heap → X w args → X w' args)
    (own : ownKnob C.prog.godebug = none) (started : os.Started) (noInit : C.prog.inits.idxOf? f = none) (hfn : C.prog.funcs[f]? = some fn)
    (witness : ∃ (w : World) (tape : Tape) (i : Input), w.os = os ∧ (w.forCall tape i).Shaped C.prog ∧ i.vars = [] ∧ Input.okWide C.prog (w.forCall tape i) .any w.heap.size f i ∧
      ((s.pre enc C.prog fn conds apart (w.forCall tape i).memory i.args ∧ X (w.forCall tape i).memory i.args) ∧ sizedMet enc C.prog fn (OpenSpec.ofChange s) apart (w.forCall tape i).memory i.args) ∧ a.holds C.prog (lone (Frame.enter C.prog f i.args .normal) [] (w.forCall tape i)))
    (contract : ∀ (W : World) (base : Nat) (args : Array Value) (ds gs : List (DataW H)) (before : List MemPlace),
      (∀ (j : Nat) t v, fn.params[j]? = some t → args[j]? = some v → Value.okWide C.prog W .any base t v) →
      DataW.Whole enc C.prog fn.params.toList s.vars apart W args.toList ds gs before →
      W.ShapedOpen C.prog → X W args →
      Calls C.prog f args W fun e W' => ∃ v, e = .returned v ∧ s.post enc C.prog fn apart fresh handsOn again W args v W') :
    ReturnsInHanded a C os f .any (fun w args => (s.pre enc C.prog fn conds apart w args ∧ X w args) ∧ sizedMet enc C.prog fn (OpenSpec.ofChange s) apart w args) (s.post enc C.prog fn apart fresh handsOn again) := by
  refine returnsInHanded_of_calls own started noInit witness ?_
  intro w tape i _ hsh _ hok hpre hholds
  obtain ⟨_, _, _, fn', hfn', _, _, _, _, hval⟩ := hok
  have e : fn' = fn := Option.some.inj (hfn'.symm.trans hfn)
  subst e
  obtain ⟨⟨⟨ds, gs, before, hw, hc⟩, hx⟩, hz⟩ := hpre
  have hw' := DataW.Whole.of_heap (w' := w.forCall tape i) (by rfl) hw
  refine (contract (w.forCall tape i) w.heap.size i.args ds gs before hval hw' hsh (hX _ _ _ (by rfl) hx)).mono fun e W' ⟨v, he, hp⟩ => ?_
  subst he
  exact ChangeSpec.post_blind hp

/-! ### the variables -/
theorem gT0 : (Tryd.prog.globals[0]?).map (·.type) = some 78 := by kernel_rfl
theorem gT2 : (Tryd.prog.globals[2]?).map (·.type) = some 41 := by kernel_rfl
theorem gT3 : (Tryd.prog.globals[3]?).map (·.type) = some 41 := by kernel_rfl
theorem g5 : Tryd.prog.globalNamed "math/bits.deBruijn64tab" = some 5 := by kernel_rfl
theorem star : "*" ++ "errors.errorString" = "*errors.errorString" := by decide
theorem rowErr (u : TypeId) (h : Tryd.prog.typeName? 3 u = some "*errors.errorString") : u = 101 :=
  typeName_ptr_named (nm := "errors.errorString") (by rw [star]; kernel_rfl) (by kernel_rfl) (by decide) u (by rw [star]; exact h)
theorem c103 : Tryd.prog.cellsOf 103 = 1 := by kernel_rfl
theorem c9 : Tryd.prog.cellsOf 9 = 1 := by kernel_rfl
theorem c36 : Tryd.prog.cellsOf 36 = 2 := by kernel_rfl
theorem c3 : Tryd.prog.cellsOf 3 = 1 := by kernel_rfl
theorem c25 : Tryd.prog.cellsOf 25 = 1 := by kernel_rfl
theorem c5 : Tryd.prog.cellsOf 5 = 1 := by kernel_rfl

abbrev laid5 : List (String × DataW Unit) := YtjhhjfjgjlheiaaDoor.Rows.scriptBackRow.laid

theorem env_of {W : World} (h0 : laidMetH Tryd.prog laid5 W) (hsh : W.ShapedOpen Tryd.prog) : Env W := by
  rw [MakeChecks.laidMetH_plain _ _ _ (by kernel_rfl)] at h0
  have h2 := h0.tail.tail
  obtain ⟨a3, s3, hv3, -, -, -⟩ := laid_sentinel h2.tail g3 gT3 Tryd.underlying41 rowErr Tryd.underlying101 Tryd.underlying103 rfl rfl Tryd.underlying9 c103 c9
  obtain ⟨a2, s2, hv2, -, -, -⟩ := laid_sentinel h2.tail.tail g2 gT2 Tryd.underlying41 rowErr Tryd.underlying101 Tryd.underlying103 rfl rfl Tryd.underlying9 c103 c9
  have ht : Lib.TabIs Tryd.prog W "internal/strconv.uint64pow10" .u64 Lib.pow10Tab := Lib.tabIs_of_head g0 gT0 Tryd.underlying78 Tryd.underlying65 (by kernel_rfl) (by kernel_rfl) h2
  refine ⟨ht, ⟨_, _, hv2⟩, ⟨_, _, hv3⟩, ?_, ?_⟩
  · exact cell_of_shapedOpen_int (zero := #[.int .i64 0]) (t := 3) hsh (of_decide_eq_true (by kernel_rfl)) (by kernel_rfl) rfl (by kernel_rfl) (by kernel_rfl) Tryd.underlying3
  · obtain ⟨ps, ⟨g', t', cs, fuel, p, q, hg', ht', hvar, hd, _, _⟩, _⟩ := h0.tail
    simp only [World.var?, g5, Option.bind_some] at hvar
    split at hvar
    · rename_i cs' _ _ hh
      have := (Array.getElem?_eq_some_iff.1 hh).1
      omega
    · cases hvar

/-! ### the arguments -/
section
variable {H : Type} {enc : TypeId × Value → H} {W : World}

theorem bytesC_of {fuel : Nat} {v : Value} {x : DataW H × List MemPlace} {held : Bool} (hf : DataW.trod enc Tryd.prog W 0 (fun _ => true) held fuel 25 [v] = some x) : ∃ d : List UInt8, BytesC W v d := by
  rcases Deep.open_slice1 Tryd.underlying25 c5 hf with ⟨hcs, hx⟩ | ⟨a, len, cap, m, n, V, D, Pl, hcs, _, hl, hm, hmm, hx, hcell⟩
  · obtain rfl : v = .slice none 0 0 := by simpa using hcs
    exact ⟨[], none, 0, rfl, by simp, fun h => by simp at h⟩
  · obtain rfl : v = .slice (some a) len cap := by simpa using hcs
    simp only [if_true] at hmm
    subst hmm
    have each : ∀ i, i < len → ∃ b : UInt8, W.cell? (a.add i) = some (.int .u8 (b.toNat : Int)) := by
      intro i hi
      obtain ⟨h1, h2⟩ := hcell i (by omega)
      obtain ⟨z, e1, _, hw⟩ := DataW.trod_int Tryd.underlying5 h2
      have e1' : V i = .int .u8 z := by simpa using e1
      have hz : 0 ≤ z ∧ z ≤ 255 := by
        have k1 : IntKind.u8.min = 0 := rfl
        have k2 : IntKind.u8.max = 255 := rfl
        simp [Lit.wf, k1, k2] at hw; omega
      refine ⟨UInt8.ofNat z.toNat, ?_⟩
      rw [h1, e1']
      have : ((UInt8.ofNat z.toNat).toNat : Int) = z := by rw [UInt8.toNat_ofNat_of_lt' (by show _ < 256; omega)]; omega
      rw [this]
    obtain ⟨B, hB⟩ := Deep.choose_lt each
    have hlen : ((List.range len).map B).length = len := by simp
    refine ⟨(List.range len).map B, some a, _, by rw [hlen], by rw [hlen]; exact hl, fun _ => ⟨a, rfl, fun j hj => ?_⟩⟩
    rw [hlen] at hj
    simp only [List.getElem_map, List.getElem_range]
    exact hB j hj

theorem callsC_of {v : Value} {d : DataW H} {p : List MemPlace} (h0 : DataW.Trod enc Tryd.prog W 0 (fun _ => true) true 22 v d p) {A : Option Addr} {len cap : Nat} (hv : v = .slice A len cap) : ∃ L, CallsC W v L ∧ Valid L := by
  subst hv
  obtain ⟨fuel, hf⟩ := h0
  have hcs0 : (Value.slice A len cap).cells.toList = [.slice A len cap] := rfl
  rw [hcs0] at hf
  rcases Deep.open_slice_pairs Tryd.underlying22 Tryd.underlying36 c36 rfl rfl c3 c25 hf with ⟨hcs, hx⟩ | ⟨a, len', cap', m, n, V0, V1, D0, D1, P0, P1, hcs, _, hl, hm, hmm, hx, hcell⟩
  · simp only [List.cons.injEq, and_true, Value.slice.injEq] at hcs
    obtain ⟨rfl, rfl, rfl⟩ := hcs
    exact ⟨[], ⟨none, 0, rfl, by simp, fun h => by simp at h⟩, fun c h => by simp at h⟩
  · simp only [List.cons.injEq, and_true, Value.slice.injEq] at hcs
    obtain ⟨rfl, rfl, rfl⟩ := hcs
    simp only [if_true] at hmm
    have each : ∀ i, i < len → ∃ c : Int × List UInt8, isInt c.1 ∧ W.cell? (a.add (i * 2)) = some (.int .i64 c.1) ∧ W.cell? (a.add (i * 2 + 1)) = some (V1 i) ∧ BytesC W (V1 i) c.2 := by
      intro i hi
      obtain ⟨h1, h2, h3, h4⟩ := hcell i (by omega)
      obtain ⟨z, e1, _, hw⟩ := DataW.trod_int Tryd.underlying3 h3
      have e1' : V0 i = .int .i64 z := by simpa using e1
      obtain ⟨d, hd⟩ := bytesC_of h4
      refine ⟨(z, d), ?_, by rw [h1, e1'], h2, hd⟩
      have k1 : IntKind.i64.min = -9223372036854775808 := rfl
      have k2 : IntKind.i64.max = 9223372036854775807 := rfl
      simp [Lit.wf, k1, k2] at hw
      exact ⟨by omega, by omega⟩
    obtain ⟨B, hB⟩ := Deep.choose_lt each
    have hlen : ((List.range len).map B).length = len := by simp
    refine ⟨(List.range len).map B, ⟨some a, cap, by rw [hlen], by rw [hlen]; exact hl, fun _ => ⟨a, rfl, fun j hj => ?_⟩⟩, fun c hc => ?_⟩
    · rw [hlen] at hj
      simp only [List.getElem_map, List.getElem_range]
      obtain ⟨_, e1, e2, e3⟩ := hB j hj
      refine ⟨e1, V1 j, ?_, e3⟩
      rw [← e2]
      congr 1
      obtain ⟨ab, ao, asp⟩ := a
      by_cases hn0 : j * 2 = 0
      · simp [Addr.add, hn0]
      · simp only [Addr.add, if_neg hn0, if_neg (show ¬ j * 2 + 1 = 0 by omega)]; rfl
    · obtain ⟨j, hj, rfl⟩ := List.mem_map.1 hc
      exact (hB j (List.mem_range.1 hj)).1
end
end Go.Proofs.Scr
