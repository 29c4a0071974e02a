/- Walks: the law ScriptBack. -/
import Derived.Test.YtjhhjfjgjlheiaaDoorW12
import Derived.Test.YtjhhjfjgjlheiaaDoorW13
namespace Go.Proofs.Scr
open Go Go.RowKit

theorem cut_valid {L : List (Int × List UInt8)} (h : Valid L) : Valid (cutL L) := by
  intro c hc
  obtain ⟨d, hd, rfl⟩ := List.mem_map.1 hc
  exact h d (List.mem_of_mem_take hd)
theorem line_len (c : Int × List UInt8) (h : isInt c.1) : (line c).length ≤ 24 + 2 * c.2.length := by
  have := itoa_le c.1 h.1 h.2
  simp only [line, List.length_append, hexl_length, List.length_cons, List.length_nil]; omega
theorem fmt_len : ∀ (L : List (Int × List UInt8)), Valid L → (∀ c ∈ L, c.2.length ≤ 30) → (fmt L).length ≤ 84 * L.length
  | [], _, _ => by simp [fmt]
  | c :: L, hv, h => by
    have h1 := fmt_len L (fun d hd => hv d (List.mem_cons_of_mem _ hd)) (fun d hd => h d (List.mem_cons_of_mem _ hd))
    have h2 := line_len c (hv c (by simp))
    have h3 := h c (by simp)
    simp only [fmt, List.length_append, List.length_cons]; omega
theorem cut_small {L : List (Int × List UInt8)} (h : Valid L) : Small (cutL L) ∧ (fmt (cutL L)).length ≤ 1000 := by
  have h8 : (cutL L).length ≤ 8 := by simp [cutL]; omega
  have h30 : ∀ c ∈ cutL L, c.2.length ≤ 30 := by
    intro c hc
    obtain ⟨d, hd, rfl⟩ := List.mem_map.1 hc
    simp [cutc]; omega
  have hf := fmt_len (cutL L) (cut_valid h) h30
  exact ⟨⟨fun c hc => ⟨cut_valid h c hc, by have := h30 c hc; omega⟩, by omega, by omega⟩, by omega⟩

theorem PPost.ok {l : List UInt8} {L : List (Int × List UInt8)} {w w' : World} {e : Ending} (h : PPost l w e w') (hR : Reads l (.ok L)) : ∃ v, e = .returned (.tuple #[v, .int .i64 0, .int .i64 0]) ∧ CallsAt w' v L ∧ Below w.heap.size w w' := by
  obtain ⟨⟨o, h1, h2⟩, hb⟩ := h
  obtain rfl := Reads.unique h1 hR
  obtain ⟨v, h3, h4⟩ := h2
  exact ⟨v, h3, h4, hb⟩
theorem PPost.bad {l : List UInt8} {i : Nat} {w w' : World} {e : Ending} (h : PPost l w e w') (hR : Reads l (.bad i)) : e = .returned (.tuple #[.slice none 0 0, .int .i64 (i : Int), .int .i64 2]) ∧ Below w.heap.size w w' := by
  obtain ⟨⟨o, h1, h2⟩, hb⟩ := h
  obtain rfl := Reads.unique h1 hR
  exact ⟨h2, hb⟩

theorem cutS (l : List UInt8) (n : Nat) : (⟨l.toArray⟩ : ByteArray).extract 0 (min (l.length : Int) (n : Int)).toNat = ⟨(l.take n).toArray⟩ := by
  have e : (min (l.length : Int) (n : Int)).toNat = min n l.length := by omega
  rw [e]
  apply ByteArray.ext
  simp only [ByteArray.data_extract, List.extract_toArray, List.extract_eq_take_drop, List.drop_zero, Nat.sub_zero]
  congr 1
  rcases Nat.lt_or_ge l.length n with h' | h'
  · rw [Nat.min_eq_right (by omega), List.take_of_length_le (Nat.le_refl _), List.take_of_length_le (by omega)]
  · rw [Nat.min_eq_left h']

theorem same_self (v1 v2 : Value) (L : List (Int × List UInt8)) (w : World) (h1 : CallsAt w v1 L) (h2 : CallsAt w v2 L) :
    Calls Tryd.prog 11 #[v1, v2] w fun e w' => e = .returned (.bool true) ∧ Below w.heap.size w w' :=
  (same_any v1 v2 L L w h1 h2).mono fun e w' h => ⟨by rw [h.1]; simp, h.2⟩

set_option maxRecDepth 100000 in
set_option maxHeartbeats 3200000 in
theorem back_any (lv : Value) (L : List (Int × List UInt8)) (sl : List UInt8) (w : World) (hE : Env w) (h : CallsC w lv L) (hv : Valid L) :
    Calls Tryd.prog 4 #[lv, .string ⟨sl.toArray⟩] w fun e w' => e = .returned (.bool true) ∧ Below w.heap.size w w' := by
  obtain ⟨hsm, hf1⟩ := cut_small hv
  have hR : Reads (fmt (cutL L)) (.ok (cutL L)) := ⟨rfl, cut_valid hv⟩
  have hsh := short_any lv L w h
  obtain ⟨C, hC⟩ : ∃ C, C = cutL L := ⟨_, rfl⟩
  rw [← hC] at hR hsm hf1 hsh
  obtain ⟨t, ht⟩ : ∃ t, t = fmt C := ⟨_, rfl⟩
  rw [← ht] at hR hf1
  have HT := Lib.hid ht
  have HSH := Lib.hid hsh
  clear hsh hC ht h hv
  have HR := Lib.hid hR
  have HS := Lib.hid hsm
  have HE := Lib.hid hE
  have hseg : (⟨sl.toArray⟩ : ByteArray).extract 0 (min (sl.length : Int) 100).toNat = ⟨(sl.take 100).toArray⟩ := cutS sl 100
  have hm0 : (0 : Int) ≤ min (sl.length : Int) 100 := by omega
  have hm1 : min (sl.length : Int) 100 ≤ (sl.length : Int) := by omega
  have ht : (sl.take 100).length ≤ 100 := by simp; omega
  obtain ⟨s0, hs0⟩ : ∃ s0, s0 = sl.take 100 := ⟨_, rfl⟩
  rw [← hs0] at hseg ht
  clear hR hsm hE hs0
  go_enter Tryd.func4, Tryd.ntmps4
  go_wp2_with fail
  refine HSH.out.mono ?_
  rintro e w1 ⟨cv, rfl, hcv, hb1⟩
  have HE1 := Lib.hid (HE.out.below hb1)
  have HV1 := Lib.hid hcv
  go_wp2_with fail
  refine (format_any cv _ _ HE1.out HV1.out HS.out).mono ?_
  rintro e w2 ⟨rfl, hb2⟩
  rw [← HT.out]
  have G2 := hb1.trans (hb2.mono hb1.size)
  have HE2 := Lib.hid (HE1.out.below hb2)
  have HV2 := Lib.hid (HV1.out.below hb2)
  clear hcv
  go_wp2_with fail
  refine (parse_any t _ HE2.out (by omega)).mono ?_
  intro e w3 hp
  obtain ⟨av, rfl, hav, hb3⟩ := hp.ok HR.out
  have G3 := G2.trans (hb3.mono G2.size)
  have HE3 := Lib.hid (HE2.out.below hb3)
  have HV3 := Lib.hid (HV2.out.below hb3)
  have HA3 := Lib.hid hav
  clear hav hp
  go_wp2_with fail
  refine (parse_any s0 _ HE3.out (by omega)).mono ?_
  intro e w4 hp
  obtain ⟨⟨o, hRo, ho⟩, hb4⟩ := hp
  have G4 := G3.trans (hb4.mono G3.size)
  have HE4 := Lib.hid (HE3.out.below hb4)
  have HV4 := Lib.hid (HV3.out.below hb4)
  have HA4 := Lib.hid (HA3.out.below hb4)
  cases o with
  | ok Lb =>
    obtain ⟨bv, rfl, hbv⟩ := ho
    have HB4 := Lib.hid hbv
    have HSb := Lib.hid (small_of hRo.1 hRo.2 (by omega))
    have HF := Lib.hid hRo.1
    clear hbv hRo hb1 hb2 hb3 hb4
    go_wp2_with fail
    refine wp_region_any (by kernel_rfl) ?_
    change wpAny _ _ _ _ _ _ _ (World.drew _)
    refine wpAny_take (i := 0) (v := (.int .i64 0)) rfl (by kernel_rfl) (by kernel_rfl) (by kernel_rfl) (fun _ _ _ h => h) (Or.inl ⟨by rfl, fun w => by go_simp⟩) ?_
    go_simp
    refine wpAny_take (i := 1) (v := (.bool true)) rfl (by kernel_rfl) (by kernel_rfl) (by kernel_rfl) (fun _ _ _ h => h) (Or.inl ⟨by rfl, fun w => by go_simp⟩) ?_
    go_simp
    refine wpAny_take (i := 2) (v := (.bool true)) rfl (by kernel_rfl) (by kernel_rfl) (by kernel_rfl) (fun _ _ _ h => h) (Or.inl ⟨by rfl, fun w => by go_simp⟩) ?_
    go_simp
    refine wpAny_take (i := 3) (v := av) rfl (by kernel_rfl) (by kernel_rfl) (by kernel_rfl) (fun _ _ _ h => h) (Or.inl ⟨by rfl, fun w => by go_simp⟩) ?_
    go_simp
    refine wpAny_take (i := 4) (v := cv) rfl (by kernel_rfl) (by kernel_rfl) (by kernel_rfl) (fun _ _ _ h => h) (Or.inl ⟨by rfl, fun w => by go_simp⟩) ?_
    go_simp
    refine wpAny_ready (rs := [5]) (by kernel_rfl) (by simp) ?_
    refine AllReady.cons rfl (fun K hK => ?_) AllReady.nil
    go_simp
    go_at_call 11
    refine (same_self av cv C _ (HA4.out.below (Below.refl _ _).drew) (HV4.out.below (Below.refl _ _).drew)).mono ?_
    rintro e w5 ⟨rfl, hb5⟩
    have g5 := (Below.refl w4.heap.size w4).drew.trans (hb5.mono (by simp))
    have G5 := G4.trans (g5.mono G4.size)
    have HE5 := Lib.hid (HE4.out.below g5)
    have HB5 := Lib.hid (HB4.out.below g5)
    clear hb5
    refine hK _ _ ?_
    clear hK K
    go_simp
    refine wpAny_take (i := 6) (v := (.bool true)) rfl (by kernel_rfl) (by kernel_rfl) (by kernel_rfl) (fun _ _ _ h => h) (Or.inl ⟨by rfl, fun w => by go_simp⟩) ?_
    go_simp
    refine wpAny_take (i := 7) (v := (.bool true)) rfl (by kernel_rfl) (by kernel_rfl) (by kernel_rfl) (fun _ _ _ h => h) (Or.inl ⟨by rfl, fun w => by go_simp⟩) ?_
    go_simp
    refine wpAny_take (i := 8) (v := (.int .i64 0)) rfl (by kernel_rfl) (by kernel_rfl) (by kernel_rfl) (fun _ _ _ h => h) (Or.inl ⟨by rfl, fun w => by go_simp⟩) ?_
    go_simp
    refine wpAny_take (i := 9) (v := (.bool false)) rfl (by kernel_rfl) (by kernel_rfl) (by kernel_rfl) (fun _ _ _ h => h) (Or.inl ⟨by rfl, fun w => by go_simp⟩) ?_
    go_simp
    refine wpAny_take (i := 10) (v := (.bool false)) rfl (by kernel_rfl) (by kernel_rfl) (by kernel_rfl) (fun _ _ _ h => h) (Or.inl ⟨by rfl, fun w => by go_simp⟩) ?_
    go_simp
    refine wpAny_take (i := 11) (v := bv) rfl (by kernel_rfl) (by kernel_rfl) (by kernel_rfl) (fun _ _ _ h => h) (Or.inl ⟨by rfl, fun w => by go_simp⟩) ?_
    go_simp
    refine wpAny_take (i := 13) (v := (.string ⟨sl.toArray⟩)) rfl (by kernel_rfl) (by kernel_rfl) (by kernel_rfl) (fun _ _ _ h => h) (Or.inl ⟨by rfl, fun w => by go_simp⟩) ?_
    go_simp
    refine wpAny_take (i := 14) (v := (.string ⟨sl.toArray⟩)) rfl (by kernel_rfl) (by kernel_rfl) (by kernel_rfl) (fun _ _ _ h => h) (Or.inl ⟨by rfl, fun w => by go_simp⟩) ?_
    go_simp
    refine wpAny_take (i := 15) (v := (.int .i64 (sl.length : Int))) rfl (by kernel_rfl) (by kernel_rfl) (by kernel_rfl) (fun _ _ _ h => h) (Or.inl ⟨by rfl, fun w => by go_simp⟩) ?_
    go_simp
    refine wpAny_take (i := 16) (v := (.int .i64 (min (sl.length : Int) 100))) rfl (by kernel_rfl) (by kernel_rfl) (by kernel_rfl) (fun _ _ _ h => h) (Or.inl ⟨by rfl, fun w => by go_simp⟩) ?_
    go_simp
    refine wpAny_take (i := 17) (v := (.string ⟨s0.toArray⟩)) rfl (by kernel_rfl) (by kernel_rfl) (by kernel_rfl) (fun _ _ _ h => h) (Or.inl ⟨by rfl, fun w => by go_simp⟩) ?_
    go_simp
    refine wpAny_ready (rs := [12]) (by kernel_rfl) (by simp) ?_
    refine AllReady.cons rfl (fun K hK => ?_) AllReady.nil
    go_simp
    go_at_call 6
    refine (format_any bv Lb _ HE5.out HB5.out HSb.out).mono ?_
    rintro e w6 ⟨rfl, hb6⟩
    rw [← HF.out]
    have G6 := G5.trans (hb6.mono G5.size)
    have HE6 := Lib.hid (HE5.out.below hb6)
    clear hb6
    refine hK _ _ ?_
    clear hK K
    go_simp
    refine wpAny_take (i := 18) (v := (.bool true)) rfl (by kernel_rfl) (by kernel_rfl) (by kernel_rfl) (fun _ _ _ h => h) (Or.inl ⟨by rfl, fun w => by go_simp⟩) ?_
    go_simp
    refine wpAny_take (i := 19) (v := (.bool true)) rfl (by kernel_rfl) (by kernel_rfl) (by kernel_rfl) (fun _ _ _ h => h) (Or.inl ⟨by rfl, fun w => by go_simp⟩) ?_
    go_simp
    refine wpAny_take (i := 20) (v := (.bool true)) rfl (by kernel_rfl) (by kernel_rfl) (by kernel_rfl) (fun _ _ _ h => h) (Or.inl ⟨by rfl, fun w => by go_simp⟩) ?_
    go_simp
    refine wpAny_take (i := 21) (v := (.bool true)) rfl (by kernel_rfl) (by kernel_rfl) (by kernel_rfl) (fun _ _ _ h => h) (Or.inl ⟨by rfl, fun w => by go_simp⟩) ?_
    go_simp
    refine wpAny_ready (rs := [22]) (by kernel_rfl) (by simp) ?_
    refine AllReady.cons rfl (fun K hK => ?_) AllReady.nil
    go_simp
    go_at_call 12
    refine (begun_any _ HE6.out).mono ?_
    rintro e w7 ⟨rfl, hb7⟩
    have G7 := G6.trans (hb7.mono G6.size)
    refine hK _ _ ?_
    clear hK K
    go_simp
    refine wpAny_take (i := 23) (v := (.bool true)) rfl (by kernel_rfl) (by kernel_rfl) (by kernel_rfl) (fun _ _ _ h => h) (Or.inl ⟨by rfl, fun w => by go_simp⟩) ?_
    go_simp
    refine wpAny_take (i := 24) (v := (.bool true)) rfl (by kernel_rfl) (by kernel_rfl) (by kernel_rfl) (fun _ _ _ h => h) (Or.inl ⟨by rfl, fun w => by go_simp⟩) ?_
    go_simp
    refine wpAny_done (by kernel_rfl) ?_ _
    go_wp2_with fail
    go_ret
    exact ⟨rfl, G7⟩
  | bad i =>
    obtain rfl := ho
    clear hRo hb1 hb2 hb3 hb4
    go_wp2_with fail
    refine wp_region_any (by kernel_rfl) ?_
    change wpAny _ _ _ _ _ _ _ (World.drew _)
    refine wpAny_take (i := 0) (v := (.int .i64 0)) rfl (by kernel_rfl) (by kernel_rfl) (by kernel_rfl) (fun _ _ _ h => h) (Or.inl ⟨by rfl, fun w => by go_simp⟩) ?_
    go_simp
    refine wpAny_take (i := 1) (v := (.bool true)) rfl (by kernel_rfl) (by kernel_rfl) (by kernel_rfl) (fun _ _ _ h => h) (Or.inl ⟨by rfl, fun w => by go_simp⟩) ?_
    go_simp
    refine wpAny_take (i := 2) (v := (.bool true)) rfl (by kernel_rfl) (by kernel_rfl) (by kernel_rfl) (fun _ _ _ h => h) (Or.inl ⟨by rfl, fun w => by go_simp⟩) ?_
    go_simp
    refine wpAny_take (i := 3) (v := av) rfl (by kernel_rfl) (by kernel_rfl) (by kernel_rfl) (fun _ _ _ h => h) (Or.inl ⟨by rfl, fun w => by go_simp⟩) ?_
    go_simp
    refine wpAny_take (i := 4) (v := cv) rfl (by kernel_rfl) (by kernel_rfl) (by kernel_rfl) (fun _ _ _ h => h) (Or.inl ⟨by rfl, fun w => by go_simp⟩) ?_
    go_simp
    refine wpAny_ready (rs := [5]) (by kernel_rfl) (by simp) ?_
    refine AllReady.cons rfl (fun K hK => ?_) AllReady.nil
    go_simp
    go_at_call 11
    refine (same_self av cv C _ (HA4.out.below (Below.refl _ _).drew) (HV4.out.below (Below.refl _ _).drew)).mono ?_
    rintro e w5 ⟨rfl, hb5⟩
    have g5 := (Below.refl w4.heap.size w4).drew.trans (hb5.mono (by simp))
    have G5 := G4.trans (g5.mono G4.size)
    have HE5 := Lib.hid (HE4.out.below g5)
    clear hb5
    refine hK _ _ ?_
    clear hK K
    go_simp
    refine wpAny_take (i := 6) (v := (.bool true)) rfl (by kernel_rfl) (by kernel_rfl) (by kernel_rfl) (fun _ _ _ h => h) (Or.inl ⟨by rfl, fun w => by go_simp⟩) ?_
    go_simp
    refine wpAny_take (i := 7) (v := (.bool true)) rfl (by kernel_rfl) (by kernel_rfl) (by kernel_rfl) (fun _ _ _ h => h) (Or.inl ⟨by rfl, fun w => by go_simp⟩) ?_
    go_simp
    refine wpAny_take (i := 8) (v := (.int .i64 2)) rfl (by kernel_rfl) (by kernel_rfl) (by kernel_rfl) (fun _ _ _ h => h) (Or.inl ⟨by rfl, fun w => by go_simp⟩) ?_
    go_simp
    refine wpAny_take (i := 9) (v := (.bool true)) rfl (by kernel_rfl) (by kernel_rfl) (by kernel_rfl) (fun _ _ _ h => h) (Or.inl ⟨by rfl, fun w => by go_simp⟩) ?_
    go_simp
    refine wpAny_take (i := 10) (v := (.bool true)) rfl (by kernel_rfl) (by kernel_rfl) (by kernel_rfl) (fun _ _ _ h => h) (Or.inl ⟨by rfl, fun w => by go_simp⟩) ?_
    go_simp
    refine wpAny_take (i := 11) (v := undef) rfl (by kernel_rfl) (by kernel_rfl) (by kernel_rfl) (fun _ _ _ h => h) (Or.inr ⟨by rfl, rfl⟩) ?_
    go_simp
    refine wpAny_take (i := 12) (v := undef) rfl (by kernel_rfl) (by kernel_rfl) (by kernel_rfl) (fun _ _ _ h => h) (Or.inr ⟨by rfl, rfl⟩) ?_
    go_simp
    refine wpAny_take (i := 13) (v := undef) rfl (by kernel_rfl) (by kernel_rfl) (by kernel_rfl) (fun _ _ _ h => h) (Or.inr ⟨by rfl, rfl⟩) ?_
    go_simp
    refine wpAny_take (i := 14) (v := undef) rfl (by kernel_rfl) (by kernel_rfl) (by kernel_rfl) (fun _ _ _ h => h) (Or.inr ⟨by rfl, rfl⟩) ?_
    go_simp
    refine wpAny_take (i := 15) (v := undef) rfl (by kernel_rfl) (by kernel_rfl) (by kernel_rfl) (fun _ _ _ h => h) (Or.inr ⟨by rfl, rfl⟩) ?_
    go_simp
    refine wpAny_take (i := 16) (v := undef) rfl (by kernel_rfl) (by kernel_rfl) (by kernel_rfl) (fun _ _ _ h => h) (Or.inr ⟨by rfl, rfl⟩) ?_
    go_simp
    refine wpAny_take (i := 17) (v := undef) rfl (by kernel_rfl) (by kernel_rfl) (by kernel_rfl) (fun _ _ _ h => h) (Or.inr ⟨by rfl, rfl⟩) ?_
    go_simp
    refine wpAny_take (i := 18) (v := undef) rfl (by kernel_rfl) (by kernel_rfl) (by kernel_rfl) (fun _ _ _ h => h) (Or.inr ⟨by rfl, rfl⟩) ?_
    go_simp
    refine wpAny_take (i := 19) (v := (.bool true)) rfl (by kernel_rfl) (by kernel_rfl) (by kernel_rfl) (fun _ _ _ h => h) (Or.inl ⟨by rfl, fun w => by go_simp⟩) ?_
    go_simp
    refine wpAny_take (i := 20) (v := (.bool true)) rfl (by kernel_rfl) (by kernel_rfl) (by kernel_rfl) (fun _ _ _ h => h) (Or.inl ⟨by rfl, fun w => by go_simp⟩) ?_
    go_simp
    refine wpAny_take (i := 21) (v := (.bool true)) rfl (by kernel_rfl) (by kernel_rfl) (by kernel_rfl) (fun _ _ _ h => h) (Or.inl ⟨by rfl, fun w => by go_simp⟩) ?_
    go_simp
    refine wpAny_ready (rs := [22]) (by kernel_rfl) (by simp) ?_
    refine AllReady.cons rfl (fun K hK => ?_) AllReady.nil
    go_simp
    go_at_call 12
    refine (begun_any _ HE5.out).mono ?_
    rintro e w7 ⟨rfl, hb7⟩
    have G7 := G5.trans (hb7.mono G5.size)
    refine hK _ _ ?_
    clear hK K
    go_simp
    refine wpAny_take (i := 23) (v := (.bool true)) rfl (by kernel_rfl) (by kernel_rfl) (by kernel_rfl) (fun _ _ _ h => h) (Or.inl ⟨by rfl, fun w => by go_simp⟩) ?_
    go_simp
    refine wpAny_take (i := 24) (v := (.bool true)) rfl (by kernel_rfl) (by kernel_rfl) (by kernel_rfl) (fun _ _ _ h => h) (Or.inl ⟨by rfl, fun w => by go_simp⟩) ?_
    go_simp
    refine wpAny_done (by kernel_rfl) ?_ _
    go_wp2_with fail
    go_ret
    exact ⟨rfl, G7⟩
end Go.Proofs.Scr
