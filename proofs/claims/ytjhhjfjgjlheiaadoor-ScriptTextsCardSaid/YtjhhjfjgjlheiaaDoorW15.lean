/- Walks: the law ScriptTexts. -/
import Derived.Test.YtjhhjfjgjlheiaaDoorW12
import Derived.Test.YtjhhjfjgjlheiaaDoorW14
import Derived.Deep.DeepCutAuto
import Derived.Deep.CutBlock
namespace Go.Proofs.Scr
open Go Go.RowKit

/-- '[]byte(s)', with what can be written -/
theorem wpList_s2bW {ops : Array Oper} {rest : List Oper} {o : Oper} {a : Act} {w : World} {Q : Exit → Act → World → Prop} (hgd : o.guard = none) (x : Operand) (ho : o.op = .convert 9 25 x) (s : ByteArray) (hx : a.eval x = .string s) (hs : s.size ≤ maxLen)
    (h : ∀ cap W', OwnB W' w.heap.size (.slice (some ⟨w.heap.size, 0, none⟩) s.size cap) s.data.toList → (∀ j, j < s.size → W'.frozen? ⟨w.heap.size, j, none⟩ = false) → Below w.heap.size w W' → wpList Tryd.prog ops Q rest (a.put o.dst (.slice (some ⟨w.heap.size, 0, none⟩) s.size cap)) W') : wpList Tryd.prog ops Q (o :: rest) a w := by
  refine wpList_plain hgd fun K hK => ?_
  have hr := run_bytes_of_string (P := Tryd.prog) w 9 25 5 s Tryd.underlying9 Tryd.underlying25 Tryd.underlying5
  have hown := ownG_bytes w s 5 hs
  have hge := grownCap_ge w s.size 0 5
  have hz : s.size ≤ (bytesRow s (grownCap w s.size 0 5)).size := by
    have : s.data.size = s.size := rfl
    simp [bytesRow, this]
  unfold Oper.wp execOp
  simp only [ho, Sem.run_bind, hx, hr, Result.andThen_ok]
  refine hK _ _ (h _ _ ?_ ?_ ((Below.refl _ _).drew.alloc (Nat.le_refl _) _))
  · have e : s.data.toList.length = s.size := rfl
    unfold OwnB
    rw [e]
    exact hown
  · intro j hj
    have hrow : (w.drew.alloc (.cells (bytesRow s (grownCap w s.size 0 5)) 5 ((bytesRow s (grownCap w s.size 0 5)).size, (bytesRow s (grownCap w s.size 0 5)).size + 1))).heap[w.heap.size]? = some (.cells (bytesRow s (grownCap w s.size 0 5)) 5 ((bytesRow s (grownCap w s.size 0 5)).size, (bytesRow s (grownCap w s.size 0 5)).size + 1)) := h_new w.drew _
    simp only [World.frozen?, hrow, Bool.and_eq_false_iff, decide_eq_false_iff_not]
    left; omega

theorem bits_u8 (op : BinOp) (x y : Int) : ∃ b : UInt8, bits op .u8 x y = (b.toNat : Int) := by
  have h : 0 ≤ bits op .u8 x y ∧ bits op .u8 x y ≤ 255 := by
    unfold bits
    generalize (_ : Int) = z
    simp [IntKind.wrap, IntKind.bits, IntKind.signed]
    omega
  refine ⟨UInt8.ofNat (bits op .u8 x y).toNat, ?_⟩
  rw [UInt8.toNat_ofNat_of_lt' (by show _ < 256; omega)]
  omega

theorem bytesAt_set {w : World} {base g cap j : Nat} {l : List UInt8} {b : UInt8} (h : OwnB w base (.slice (some ⟨g, 0, none⟩) l.length cap) l) (hj : j < l.length) (hl : l.length ≤ 1000000) :
    BytesAt (w.setCell ⟨g, j, none⟩ (.int .u8 (b.toNat : Int))) (.slice (some ⟨g, 0, none⟩) l.length cap) (l.set j b) := by
  have hB := h.bytesAt (by omega)
  obtain ⟨A, c, h1, _, h2⟩ := hB
  cases h1
  refine ⟨some ⟨g, 0, none⟩, cap, by simp, by simp; omega, fun _ => ⟨⟨g, 0, none⟩, rfl, fun i hi => ?_⟩⟩
  obtain ⟨ad, hA, hx⟩ := h2 (by omega)
  cases hA
  have hi' : i < l.length := by simpa using hi
  have hxi := hx i hi'
  have hxj := hx j hj
  rw [Addr.add_lit, Nat.zero_add] at hxi hxj ⊢
  by_cases hij : j = i
  · subst hij
    rw [World.cell?_setCell_same _ _ _ hxj]; simp
  · rw [World.cell?_setCell_other _ _ _ _ (by simp [hij]), hxi]; simp [hij]
theorem CallsC.below {w w' : World} {v : Value} {L : List (Int × List UInt8)} (h : CallsC w v L) (hb : Below w.heap.size w w') : CallsC w' v L := by
  obtain ⟨A, c, h1, h2, h3⟩ := h
  refine ⟨A, c, h1, h2, fun hp => ?_⟩
  obtain ⟨ad, hA, hx⟩ := h3 hp
  refine ⟨ad, hA, fun j hj => ?_⟩
  obtain ⟨e1, dv, e2, e3⟩ := hx j hj
  exact ⟨(hb.cell (World.block_lt_of_cell? w _ e1)).trans e1, dv, (hb.cell (World.block_lt_of_cell? w _ e2)).trans e2, e3.below hb⟩

theorem strCells {W : World} {g : Nat} {t : TypeId} {X : List ByteArray} (h : W.heap[g]? = some (.cells (X.map Value.string).toArray t (0, 0))) (j : Nat) (hj : j < X.length) : W.cell? ⟨g, j, none⟩ = some (.string X[j]) := by
  rw [cell_of_row W g j _ _ _ h]
  simp [hj]

theorem takeS (l : List UInt8) (n : Nat) (h : n ≤ l.length) (W : World) : (Instr.slice 9 (.string ⟨l.toArray⟩) none (some (.int .i64 (n : Int))) none).run Tryd.prog W = .ok (.string ⟨(l.take n).toArray⟩) W := by
  have e : (⟨l.toArray⟩ : ByteArray).extract 0 n = ⟨(l.take n).toArray⟩ := by
    apply ByteArray.ext
    simp only [ByteArray.data_extract, List.extract_toArray, List.extract_eq_take_drop, List.drop_zero, Nat.sub_zero]
  have hn : (n : Int) ≤ (l.length : Int) := by omega
  have h0 : (0 : Int) ≤ (n : Int) := by omega
  simp [go_sem, hn, h0, e]

set_option maxRecDepth 100000 in
set_option maxHeartbeats 6400000 in
theorem texts_any (lv : Value) (L : List (Int × List UInt8)) (sl : List UInt8) (at_ y : Int) (w : World) (hE : Env w) (h : CallsC w lv L) (hv : Valid L) :
    Calls Tryd.prog 3 #[lv, .string ⟨sl.toArray⟩, .int .i64 at_, .int .u8 y] w fun e w' => e = .returned (.bool true) ∧ Below w.heap.size w w' := by
  obtain ⟨hsm, hf1⟩ := cut_small hv
  have hsh := fun W hb => short_any lv L W hb
  obtain ⟨C, hC⟩ : ∃ C, C = cutL L := ⟨_, rfl⟩
  rw [← hC] at hsm hf1
  have hshC : Calls Tryd.prog 5 #[lv] w.drew fun e w' => ∃ v', e = .returned v' ∧ CallsAt w' v' C ∧ Below w.drew.heap.size w.drew w' := by rw [hC]; exact short_any lv L _ (h.below (Below.refl _ _).drew)
  obtain ⟨t, ht⟩ : ∃ t, t = fmt C := ⟨_, rfl⟩
  rw [← ht] at hf1
  have HT := Lib.hid ht
  have HSH := Lib.hid hshC
  have HS := Lib.hid hsm
  have HE := Lib.hid hE
  have hseg : (⟨sl.toArray⟩ : ByteArray).extract 0 (min (sl.length : Int) 60).toNat = ⟨(sl.take 60).toArray⟩ := cutS sl 60
  have hm0 : (0 : Int) ≤ min (sl.length : Int) 60 := by omega
  have hm1 : min (sl.length : Int) 60 ≤ (sl.length : Int) := by omega
  have hs60 : (sl.take 60).length ≤ 60 := by simp; omega
  obtain ⟨s0, hs0⟩ : ∃ s0, s0 = sl.take 60 := ⟨_, rfl⟩
  rw [← hs0] at hseg hs60
  clear hsh hC ht h hv hshC hsm hE hs0
  go_enter Tryd.func3, Tryd.ntmps3
  go_wp2_with fail
  go_cut [0, 1] (fun v s wx => s = .string ⟨s0.toArray⟩ ∧ CallsAt wx v C ∧ Below w.heap.size w wx)
  case first =>
    go_region_with (go_at_call 5; refine HSH.out.mono ?_; rintro e w1 ⟨cv, rfl, hcv, hb1⟩)
    all_goals (
      have G1 : Below w.heap.size w w1 := (Below.refl _ _).drew.trans (hb1.mono (by simp))
      go_wp2_with fail
      go_meet
      exact ⟨rfl, hcv, G1⟩)
  case rest =>
    obtain ⟨rfl, hcv, G1⟩ := hcut
    have HE1 := Lib.hid (HE.out.below G1)
    have HV1 := Lib.hid hcv
    clear hcv
    go_wp2_with fail
    refine (format_any _ _ _ HE1.out HV1.out HS.out).mono ?_
    rintro e w2 ⟨rfl, hb2⟩
    rw [← HT.out]
    have G2 := G1.trans (hb2.mono G1.size)
    have HE2 := Lib.hid (HE1.out.below hb2)
    have HV2 := Lib.hid (HV1.out.below hb2)
    clear hb2
    go_wp2_with fail
    refine (refFormat_any _ _ _ HV2.out HS.out).mono ?_
    rintro e w3 ⟨rfl, hb3⟩
    rw [← HT.out]
    have G3 := G2.trans (hb3.mono G2.size)
    have HE3 := Lib.hid (HE2.out.below hb3)
    clear hb3
    have htt : (⟨t.toArray⟩ : ByteArray).size ≤ maxLen := by rw [bsize_arr]; simp [maxLen]; omega
    go_wp2_with (refine wpList_s2bW rfl (.tmp 32) rfl _ rfl htt ?_)
    intro cap w4 hown hfro hb4
    have hown' : OwnB w4 w3.heap.size (.slice (some ⟨w3.heap.size, 0, none⟩) t.length cap) t := by simpa using hown
    have hfro' : ∀ j, j < t.length → w4.frozen? ⟨w3.heap.size, j, none⟩ = false := by simpa using hfro
    have HB := Lib.hid hown'
    have HFR := Lib.hid hfro'
    have G4 := G3.trans (hb4.mono G3.size)
    clear hown hown' hfro hfro' hb4
    go_upto_if 36 with (fail)
    go_cut [10] (fun v wx => ∃ bad : List UInt8, bad.length ≤ 1000 ∧ BytesAt wx v bad ∧ Below w.heap.size w wx)
    case first =>
      by_cases ht0 : 0 < t.length
      · have ht0' : (0 : Int) < (t.length : Int) := by omega
        obtain ⟨hk0, hk1⟩ := modOf_bd at_ (t.length : Int) (by omega)
        obtain ⟨k, hk⟩ : ∃ k : Nat, modOf at_ (t.length : Int) = (k : Int) := ⟨(modOf at_ (t.length : Int)).toNat, by omega⟩
        have hkt : k < t.length := by omega
        have hb1 : (k : Int) < (t.length : Int) := by omega
        have hc : w4.cell? ⟨w3.heap.size, k, none⟩ = some (.int .u8 (t[k].toNat : Int)) := OwnG.cells HB.out rfl _ _ ((byteCells_get t k _).2 ⟨hkt, rfl⟩)
        have hf := HFR.out k hkt
        obtain ⟨z, hz⟩ : ∃ z : Int, z = (t[k].toNat : Int) := ⟨_, rfl⟩
        rw [← hz] at hc
        obtain ⟨b, hb⟩ := bits_u8 .xor z y
        clear hz
        go_wp2_with (go_at_call 8; refine (mod_any at_ (t.length : Int) _ (by omega)).mono ?_; rintro e w5 ⟨rfl, rfl⟩; rw [hk])
        go_meet
        exact ⟨t.set k b, by simp; omega, bytesAt_set HB.out hkt (by omega), G4.setCell (by simpa using G3.size) _⟩
      · have ht0' : ¬ (0 : Int) < (t.length : Int) := by omega
        go_wp2_with fail
        go_meet
        exact ⟨t, by omega, HB.out.bytesAt (by omega), G4⟩
    case rest =>
      obtain ⟨bad, hbl, hbad, G5⟩ := hcut
      obtain ⟨q, hq⟩ : ∃ q : Nat, modOf at_ ((t.length : Int) + 1) = (q : Int) := ⟨(modOf at_ ((t.length : Int) + 1)).toNat, by have := modOf_bd at_ ((t.length : Int) + 1) (by omega); omega⟩
      have hqt : q ≤ t.length := by have := modOf_bd at_ ((t.length : Int) + 1) (by omega); omega
      have hsl := takeS t q hqt
      have HBD := Lib.hid hbad
      have HE5 := Lib.hid (HE.out.below G5)
      clear hbad
      go_wp2_with fail
      go_cut [65, 66, 67] (fun v n i wx => ∃ (g : Nat) (X : List ByteArray), v = .slice (some ⟨g, 0, none⟩) 14 14 ∧ n = .int .i64 14 ∧ i = .int .i64 0 ∧ X.length = 14 ∧ (∀ x ∈ X, x.size ≤ 1000000) ∧ wx.heap[g]? = some (.cells (X.map Value.string).toArray 9 (0, 0)) ∧ Below w.heap.size w wx)
      case first =>
        have hcv : (convert 25 9 u10).run Tryd.prog (World.drew wc) = .ok (.string ⟨bad.toArray⟩) (World.drew wc) := run_b2s _ (HBD.out.below (Below.refl _ _).drew)
        have hXS : ∀ x ∈ ([⟨s0.toArray⟩, ⟨t.toArray⟩, ⟨bad.toArray⟩, ⟨(t.take q).toArray⟩, (⟨t.toArray⟩ : ByteArray) ++ ⟨s0.toArray⟩, (⟨s0.toArray⟩ : ByteArray) ++ ⟨#[10]⟩, ⟨#[]⟩, (⟨#[49, 32, 10]⟩ : ByteArray) ++ ⟨s0.toArray⟩, ⟨#[57, 50, 50, 51, 51, 55, 50, 48, 51, 54, 56, 53, 52, 55, 55, 53, 56, 48, 56, 32, 48, 48, 10]⟩, ⟨#[45, 57, 50, 50, 51, 51, 55, 50, 48, 51, 54, 56, 53, 52, 55, 55, 53, 56, 48, 56, 32, 48, 48, 10]⟩, ⟨#[45, 48, 32, 10]⟩, ⟨#[48, 49, 32, 48, 48, 10]⟩, ⟨#[49, 32, 48, 10]⟩, ⟨#[49, 32, 48, 65, 10]⟩] : List ByteArray), x.size ≤ 1000000 := by
          intro x hx
          simp only [List.mem_cons, List.not_mem_nil, or_false] at hx
          rcases hx with rfl | rfl | rfl | rfl | rfl | rfl | rfl | rfl | rfl | rfl | rfl | rfl | rfl | rfl <;> simp only [ByteArray.size_append, bsize_arr, List.size_toArray, List.length_take] <;> (try simp) <;> omega
        have hz1 : ¬ 9223372036854775807 < t.length + s0.length := by omega
        have hz2 : ¬ 9223372036854775807 < s0.length + 1 := by omega
        have hz3 : ¬ 9223372036854775807 < 3 + s0.length := by omega
        have hw1 : IntKind.i64.wrap ((t.length : Int) + 1) = (t.length : Int) + 1 := IntWalk.i64_in _ (by omega)
        refine wp_region_any (by kernel_rfl) ?_
        change wpAny _ _ _ _ _ _ _ (World.drew _)
        refine wpAny_take (i := 0) (v := (.string ⟨s0.toArray⟩)) rfl (by kernel_rfl) (by kernel_rfl) (by kernel_rfl) (fun _ _ _ h => h) (Or.inl ⟨by rfl, fun w => by go_simp⟩) ?_
        go_simp
        refine wpAny_take (i := 1) (v := (.string ⟨t.toArray⟩)) rfl (by kernel_rfl) (by kernel_rfl) (by kernel_rfl) (fun _ _ _ h => h) (Or.inl ⟨by rfl, fun w => by go_simp⟩) ?_
        go_simp
        refine wpAny_take (i := 2) (v := u10) rfl (by kernel_rfl) (by kernel_rfl) (by kernel_rfl) (fun _ _ _ h => h) (Or.inl ⟨by rfl, fun w => by go_simp⟩) ?_
        go_simp
        refine wpAny_take (i := 4) (v := (.string ⟨t.toArray⟩)) rfl (by kernel_rfl) (by kernel_rfl) (by kernel_rfl) (fun _ _ _ h => h) (Or.inl ⟨by rfl, fun w => by go_simp⟩) ?_
        go_simp
        refine wpAny_take (i := 5) (v := (.int .i64 at_)) rfl (by kernel_rfl) (by kernel_rfl) (by kernel_rfl) (fun _ _ _ h => h) (Or.inl ⟨by rfl, fun w => by go_simp⟩) ?_
        go_simp
        refine wpAny_take (i := 6) (v := (.string ⟨t.toArray⟩)) rfl (by kernel_rfl) (by kernel_rfl) (by kernel_rfl) (fun _ _ _ h => h) (Or.inl ⟨by rfl, fun w => by go_simp⟩) ?_
        go_simp
        refine wpAny_take (i := 7) (v := (.int .i64 (t.length : Int))) rfl (by kernel_rfl) (by kernel_rfl) (by kernel_rfl) (fun _ _ _ h => h) (Or.inl ⟨by rfl, fun w => by go_simp⟩) ?_
        go_simp
        refine wpAny_take (i := 8) (v := (.int .i64 ((t.length : Int) + 1))) rfl (by kernel_rfl) (by kernel_rfl) (by kernel_rfl) (fun _ _ _ h => h) (Or.inl ⟨by rfl, fun w => by go_simp⟩) ?_
        go_simp
        refine wpAny_take (i := 11) (v := (.string ⟨t.toArray⟩)) rfl (by kernel_rfl) (by kernel_rfl) (by kernel_rfl) (fun _ _ _ h => h) (Or.inl ⟨by rfl, fun w => by go_simp⟩) ?_
        go_simp
        refine wpAny_take (i := 12) (v := (.string ⟨s0.toArray⟩)) rfl (by kernel_rfl) (by kernel_rfl) (by kernel_rfl) (fun _ _ _ h => h) (Or.inl ⟨by rfl, fun w => by go_simp⟩) ?_
        go_simp
        refine wpAny_take (i := 13) (v := (.string ((⟨t.toArray⟩ : ByteArray) ++ ⟨s0.toArray⟩))) rfl (by kernel_rfl) (by kernel_rfl) (by kernel_rfl) (fun _ _ _ h => h) (Or.inl ⟨by rfl, fun w => by go_simp⟩) ?_
        go_simp
        refine wpAny_take (i := 14) (v := (.string ⟨s0.toArray⟩)) rfl (by kernel_rfl) (by kernel_rfl) (by kernel_rfl) (fun _ _ _ h => h) (Or.inl ⟨by rfl, fun w => by go_simp⟩) ?_
        go_simp
        refine wpAny_take (i := 15) (v := (.string ((⟨s0.toArray⟩ : ByteArray) ++ ⟨#[10]⟩))) rfl (by kernel_rfl) (by kernel_rfl) (by kernel_rfl) (fun _ _ _ h => h) (Or.inl ⟨by rfl, fun w => by go_simp⟩) ?_
        go_simp
        refine wpAny_take (i := 16) (v := (.string ⟨s0.toArray⟩)) rfl (by kernel_rfl) (by kernel_rfl) (by kernel_rfl) (fun _ _ _ h => h) (Or.inl ⟨by rfl, fun w => by go_simp⟩) ?_
        go_simp
        refine wpAny_take (i := 17) (v := (.string ((⟨#[49, 32, 10]⟩ : ByteArray) ++ ⟨s0.toArray⟩))) rfl (by kernel_rfl) (by kernel_rfl) (by kernel_rfl) (fun _ _ _ h => h) (Or.inl ⟨by rfl, fun w => by go_simp⟩) ?_
        go_simp
        refine wpAny_take (i := 20) (v := (.int .i64 0)) rfl (by kernel_rfl) (by kernel_rfl) (by kernel_rfl) (fun _ _ _ h => h) (Or.inl ⟨by rfl, fun w => by go_simp⟩) ?_
        go_simp
        refine wpAny_ready (rs := [3, 9]) (by kernel_rfl) (by simp) ?_
        refine AllReady.cons rfl (fun K hK => ?_) (AllReady.cons rfl (fun K hK => ?_) AllReady.nil)
        · go_simp
          refine hK _ _ ?_
          clear hK K
          go_simp
          refine wpAny_ready (rs := [9]) (by kernel_rfl) (by simp) ?_
          refine AllReady.cons rfl (fun K hK => ?_) AllReady.nil
          go_simp
          go_at_call 8
          refine (mod_any at_ ((t.length : Int) + 1) _ (by omega)).mono ?_
          rintro e w5 ⟨rfl, rfl⟩
          rw [hq]
          refine hK _ _ ?_
          clear hK K
          go_simp
          refine wpAny_take (i := 10) (v := (.string ⟨(t.take q).toArray⟩)) rfl (by kernel_rfl) (by kernel_rfl) (by kernel_rfl) (fun _ _ _ h => h) (Or.inl ⟨by rfl, fun w => by go_simp⟩) ?_
          go_simp
          refine wpAny_ready (rs := [18]) (by kernel_rfl) (by simp) ?_
          refine AllReady.cons rfl (fun K hK => ?_) AllReady.nil
          go_simp
          refine hK _ _ ?_
          clear hK K
          go_simp
          refine wpAny_take (i := 19) (v := (.int .i64 14)) rfl (by kernel_rfl) (by kernel_rfl) (by kernel_rfl) (fun _ _ _ h => h) (Or.inl ⟨by rfl, fun w => by go_simp⟩) ?_
          go_simp
          refine wpAny_done (by kernel_rfl) ?_ _
          go_wp2_with fail
          go_meet
          refine ⟨wc.heap.size, [⟨s0.toArray⟩, ⟨t.toArray⟩, ⟨bad.toArray⟩, ⟨(t.take q).toArray⟩, (⟨t.toArray⟩ : ByteArray) ++ ⟨s0.toArray⟩, (⟨s0.toArray⟩ : ByteArray) ++ ⟨#[10]⟩, ⟨#[]⟩, (⟨#[49, 32, 10]⟩ : ByteArray) ++ ⟨s0.toArray⟩, ⟨#[57, 50, 50, 51, 51, 55, 50, 48, 51, 54, 56, 53, 52, 55, 55, 53, 56, 48, 56, 32, 48, 48, 10]⟩, ⟨#[45, 57, 50, 50, 51, 51, 55, 50, 48, 51, 54, 56, 53, 52, 55, 55, 53, 56, 48, 56, 32, 48, 48, 10]⟩, ⟨#[45, 48, 32, 10]⟩, ⟨#[48, 49, 32, 48, 48, 10]⟩, ⟨#[49, 32, 48, 10]⟩, ⟨#[49, 32, 48, 65, 10]⟩], rfl, rfl, rfl, rfl, hXS, ?_, (G5.alloc G5.size _).drew⟩
          exact h_new wc _
        · go_simp
          go_at_call 8
          refine (mod_any at_ ((t.length : Int) + 1) _ (by omega)).mono ?_
          rintro e w5 ⟨rfl, rfl⟩
          rw [hq]
          refine hK _ _ ?_
          clear hK K
          go_simp
          refine wpAny_take (i := 10) (v := (.string ⟨(t.take q).toArray⟩)) rfl (by kernel_rfl) (by kernel_rfl) (by kernel_rfl) (fun _ _ _ h => h) (Or.inl ⟨by rfl, fun w => by go_simp⟩) ?_
          go_simp
          refine wpAny_ready (rs := [3]) (by kernel_rfl) (by simp) ?_
          refine AllReady.cons rfl (fun K hK => ?_) AllReady.nil
          go_simp
          refine hK _ _ ?_
          clear hK K
          go_simp
          refine wpAny_ready (rs := [18]) (by kernel_rfl) (by simp) ?_
          refine AllReady.cons rfl (fun K hK => ?_) AllReady.nil
          go_simp
          refine hK _ _ ?_
          clear hK K
          go_simp
          refine wpAny_take (i := 19) (v := (.int .i64 14)) rfl (by kernel_rfl) (by kernel_rfl) (by kernel_rfl) (fun _ _ _ h => h) (Or.inl ⟨by rfl, fun w => by go_simp⟩) ?_
          go_simp
          refine wpAny_done (by kernel_rfl) ?_ _
          go_wp2_with fail
          go_meet
          refine ⟨wc.heap.size, [⟨s0.toArray⟩, ⟨t.toArray⟩, ⟨bad.toArray⟩, ⟨(t.take q).toArray⟩, (⟨t.toArray⟩ : ByteArray) ++ ⟨s0.toArray⟩, (⟨s0.toArray⟩ : ByteArray) ++ ⟨#[10]⟩, ⟨#[]⟩, (⟨#[49, 32, 10]⟩ : ByteArray) ++ ⟨s0.toArray⟩, ⟨#[57, 50, 50, 51, 51, 55, 50, 48, 51, 54, 56, 53, 52, 55, 55, 53, 56, 48, 56, 32, 48, 48, 10]⟩, ⟨#[45, 57, 50, 50, 51, 51, 55, 50, 48, 51, 54, 56, 53, 52, 55, 55, 53, 56, 48, 56, 32, 48, 48, 10]⟩, ⟨#[45, 48, 32, 10]⟩, ⟨#[48, 49, 32, 48, 48, 10]⟩, ⟨#[49, 32, 48, 10]⟩, ⟨#[49, 32, 48, 65, 10]⟩], rfl, rfl, rfl, rfl, hXS, ?_, (G5.alloc G5.size _).drew⟩
          exact h_new wc _
      case rest =>
        obtain ⟨g, X, rfl, rfl, rfl, hX14, hXs, hrow, G6⟩ := hcut
        have HE6 := Lib.hid (HE.out.below G6)
        have HROW := Lib.hid hrow
        have HXS := Lib.hid hXs
        clear hrow hXs
        go_wp2_with fail
        obtain ⟨wo, hwo⟩ : ∃ wo, wo = wc := ⟨_, rfl⟩
        rw [← hwo] at G6 HE6 HROW
        go_loopw [67] (fun i wr => ∃ k : Nat, k ≤ 14 ∧ i = .int .i64 k ∧ Below wo.heap.size wo wr) (fun i _ => 14 - (RowKit.intOf i).toNat)
        case atStart => exact ⟨0, Nat.zero_le _, rfl, by rw [hwo]; exact Below.refl _ _⟩
        case round =>
          obtain ⟨k, hk, rfl, hbel⟩ := hrel
          clear hwo
          have G7 := G6.trans (hbel.mono G6.size)
          have HE7 := Lib.hid (HE.out.below G7)
          by_cases hlt : k < 14
          · have hkX : k < X.length := by omega
            have hc := strCells HROW.out k hkX
            have hc2 := (hbel.cell (World.block_lt_of_cell? wo _ hc)).trans hc
            have hxs := HXS.out _ (List.getElem_mem hkX)
            obtain ⟨l, hl⟩ : ∃ l : List UInt8, X[k] = ⟨l.toArray⟩ := ⟨X[k].data.toList, by simp⟩
            rw [hl] at hc2 hxs
            rw [bsize_arr] at hxs
            have hll : l.length ≤ 1000000 := by simpa using hxs
            have hb1 : (k : Int) < 14 := by omega
            clear hc hl hxs
            go_wp2_with fail
            refine (parse_any l _ HE7.out hll).mono ?_
            intro e w5 hp
            obtain ⟨⟨o, hR, ho⟩, hb5⟩ := hp
            have HR := Lib.hid hR
            have G8 := hbel.trans (hb5.mono hbel.size)
            clear hR hb5 hc2
            cases o with
            | ok La =>
              obtain ⟨av, rfl, hav⟩ := ho
              have HA := Lib.hid hav
              clear hav
              go_wp2_with fail
              refine (refParse_any l _ hll).mono ?_
              intro e w6 hp
              obtain ⟨bv, rfl, hbv, hb6⟩ := hp.ok HR.out
              have HB2 := Lib.hid hbv
              have HA2 := Lib.hid (HA.out.below hb6)
              have G9 := G8.trans (hb6.mono G8.size)
              clear hbv hb6 hp
              go_wp2_with (go_at_call 11; refine (same_self av bv La _ HA2.out HB2.out).mono ?_; rintro e w7 ⟨rfl, hb7⟩)
              have G10 := G9.trans (hb7.mono G9.size)
              go_roundw
              case rel => exact ⟨k + 1, by omega, by go_num, G10⟩
              case measure => simp [RowKit.intOf]; omega
            | bad j =>
              obtain rfl := ho
              go_wp2_with fail
              refine (refParse_any l _ hll).mono ?_
              intro e w6 hp
              obtain ⟨rfl, hb6⟩ := hp.bad HR.out
              have G9 := G8.trans (hb6.mono G8.size)
              clear hb6 hp
              go_wp2_with (go_at_call 11; refine (same_self _ _ [] _ (callsAt_nil _) (callsAt_nil _)).mono ?_; rintro e w7 ⟨rfl, hb7⟩)
              have G10 := G9.trans (hb7.mono G9.size)
              go_roundw
              case rel => exact ⟨k + 1, by omega, by go_num, G10⟩
              case measure => simp [RowKit.intOf]; omega
          · have hb1 : ¬ (k : Int) < 14 := by omega
            go_wp2_with fail
            refine (begun_any _ HE7.out).mono ?_
            rintro e w5 ⟨rfl, hb5⟩
            have G8 := G7.trans (hb5.mono G7.size)
            go_wp2_with fail
            go_ret
            exact ⟨rfl, G8⟩
end Go.Proofs.Scr
