import Derived.Test.YtjhhjfjgjlheiaaDoorW6
import Derived.Test.YtjhhjfjgjlheiaaDoorW7
import Derived.Test.YtjhhjfjgjlheiaaDoorCalls
import Derived.Deep.DeepCutAuto
import Derived.Deep.CutBlock
import Derived.Deep.LoopGhost
namespace Go.Proofs.Scr
open Go Go.RowKit

/-- where the first line of a text ends -/
def nl (s : List UInt8) : Nat := (s.takeWhile (· != 10)).length
theorem nl_cons (b : UInt8) (l : List UInt8) : nl (b :: l) = if b = 10 then 0 else nl l + 1 := by
  unfold nl
  rw [List.takeWhile_cons]
  by_cases hb : b = 10
  · subst hb; simp
  · simp [hb]
theorem nl_le (l : List UInt8) : nl l ≤ l.length := by
  induction l with
  | nil => simp [nl]
  | cons b l ih => rw [nl_cons]; split <;> simp; omega
theorem nl_no : ∀ (l : List UInt8) (j : Nat) (h : j < l.length), j < nl l → l[j] ≠ 10
  | [], j, h, _ => by simp at h
  | b :: l, j, h, hj => by
    rw [nl_cons] at hj
    by_cases hb : b = 10
    · rw [if_pos hb] at hj; omega
    · rw [if_neg hb] at hj
      cases j with
      | zero => simpa using hb
      | succ j => simpa using nl_no l j (by simpa using h) (by omega)
theorem nl_at : ∀ (l : List UInt8) (h : nl l < l.length), l[nl l] = 10
  | [], h => by simp at h
  | b :: l, h => by
    by_cases hb : b = 10
    · have e : nl (b :: l) = 0 := by rw [nl_cons, if_pos hb]
      simp only [e, List.getElem_cons_zero]; exact hb
    · have e : nl (b :: l) = nl l + 1 := by rw [nl_cons, if_neg hb]
      simp only [e, List.getElem_cons_succ]
      exact nl_at l (by rw [e] at h; simpa using h)

theorem ref_bad' {s : List UInt8} (h : line (rcall (s.take (nl s + 1))) ≠ s.take (nl s + 1)) : NoLine s := by
  refine ref_bad (k := nl s) (fun j hj e => ?_) ?_ h
  · have hjl : j < s.length := by have := nl_le s; omega
    rw [List.getElem?_eq_getElem hjl] at e
    exact nl_no s j hjl hj (Option.some.inj e)
  · rcases Nat.lt_or_ge (nl s) s.length with h' | h'
    · right; rw [List.getElem?_eq_getElem h', nl_at s h']
    · left; exact h'

theorem line_le (c : Int × List UInt8) : c.2.length + 1 ≤ (line c).length := by
  simp only [line, List.length_append, List.length_cons, hexl_length]; omega
theorem fmt_le : ∀ L : List (Int × List UInt8), L.length ≤ (fmt L).length ∧ ∀ c ∈ L, c.2.length ≤ (fmt L).length
  | [] => ⟨Nat.le_refl _, fun c h => by simp at h⟩
  | c :: L => by
    obtain ⟨h1, h2⟩ := fmt_le L
    have := line_le c
    refine ⟨by simp [fmt]; omega, fun d hd => ?_⟩
    rcases List.mem_cons.1 hd with rfl | hd
    · simp [fmt]; omega
    · have := h2 d hd; simp [fmt]; omega
theorem small_of {l : List UInt8} {L : List (Int × List UInt8)} (h : l = fmt L) (hv : Valid L) (hl : l.length ≤ 1000000) : Small L := by
  subst h
  obtain ⟨h1, h2⟩ := fmt_le L
  exact ⟨fun c hc => ⟨hv c hc, by have := h2 c hc; omega⟩, by omega, by omega⟩

theorem seg_eq (r : List UInt8) : (⟨r.toArray⟩ : ByteArray).extract 0 (min ((nl r : Int) + 1) (r.length : Int)).toNat = ⟨(r.take (nl r + 1)).toArray⟩ := by
  have h := nl_le r
  have e : (min ((nl r : Int) + 1) (r.length : Int)).toNat = min (nl r + 1) r.length := by omega
  rw [e]
  apply ByteArray.ext
  simp only [ByteArray.data_extract, List.extract_toArray, List.extract_eq_take_drop, List.drop_zero, Nat.sub_zero]
  congr 1
  rcases Nat.lt_or_ge r.length (nl r + 1) with h' | h'
  · rw [Nat.min_eq_right (by omega), List.take_of_length_le (Nat.le_refl _), List.take_of_length_le (by omega)]
  · rw [Nat.min_eq_left h']
theorem rest_eq (r : List UInt8) : (⟨r.toArray⟩ : ByteArray).extract (min ((nl r : Int) + 1) (r.length : Int)).toNat r.length = ⟨(r.drop (nl r + 1)).toArray⟩ := by
  have h := nl_le r
  have e : (min ((nl r : Int) + 1) (r.length : Int)).toNat = min (nl r + 1) r.length := by omega
  rw [e]
  apply ByteArray.ext
  simp only [ByteArray.data_extract, List.extract_toArray, List.extract_eq_take_drop]
  congr 1
  rcases Nat.lt_or_ge r.length (nl r + 1) with h' | h'
  · rw [Nat.min_eq_right (by omega), List.drop_of_length_le (Nat.le_refl _), List.drop_of_length_le (by omega)]; simp
  · rw [Nat.min_eq_left h', List.take_of_length_le (by simp)]

theorem OwnC.lt {w : World} {base : Nat} {v : Value} {L : List (Int × List UInt8)} (h : OwnC w base v L) : ∀ k, v.ownBlock = some k → base ≤ k ∧ k < w.heap.size := by
  obtain ⟨vs, _, hown, _⟩ := h
  exact hown.lt

theorem OwnC.grown {w wr W w3 : World} {u : Value} {L : List (Int × List UInt8)} (hown : OwnC wr w.heap.size u L) (hbel : Below w.heap.size w wr) (hW : Below wr.heap.size wr W) (hgr : W.grownBy w3 u.ownBlock) : Below w.heap.size w w3 ∧ wr.heap.size ≤ w3.heap.size := by
  obtain ⟨vs, _, hg, _⟩ := hown
  exact grown_belowW hbel hW hg hgr

def PPost (l : List UInt8) (w : World) (e : Ending) (w' : World) : Prop :=
  (∃ o, Reads l o ∧ match o with
    | .ok L => ∃ v, e = .returned (.tuple #[v, .int .i64 0, .int .i64 0]) ∧ CallsAt w' v L
    | .bad i => e = .returned (.tuple #[.slice none 0 0, .int .i64 (i : Int), .int .i64 2])) ∧ Below w.heap.size w w'

set_option maxRecDepth 100000 in
set_option maxHeartbeats 3200000 in
theorem refParse_any (l : List UInt8) (w : World) (hl : l.length ≤ 1000000) :
    Calls Tryd.prog 10 #[.string ⟨l.toArray⟩] w (PPost l w) := by
  go_enter Tryd.func10, Tryd.ntmps10
  go_wp2_with fail
  go_loopg [0, 5] (l.length) (fun g s v wr => ∃ (r : List UInt8) (L : List (Int × List UInt8)), s = .string ⟨r.toArray⟩ ∧ l = fmt L ++ r ∧ Valid L ∧ r.length ≤ g ∧ OwnC wr w.heap.size v L ∧ Below w.heap.size w wr)
  case atStart => exact ⟨l, [], rfl, rfl, fun c h => by simp at h, Nat.le_refl _, OwnC.nil _ _, Below.refl _ _⟩
  case round =>
    obtain ⟨r, L, rfl, hrl, hval, hrg, hown, hbel⟩ := hrel
    obtain ⟨oA, oc, rfl⟩ := hown.slice
    have HR := Lib.hid hrl
    have HV := Lib.hid hval
    have HO := Lib.hid hown
    have hrn : r.length ≤ 1000000 := by rw [hrl] at hl; simp at hl; omega
    have hLn : L.length ≤ 1000000 := by have := (fmt_le L).1; rw [hrl] at hl; simp at hl; omega
    clear hrl hval hown
    by_cases hr0 : 0 < r.length
    · have hr0' : (0 : Int) < (r.length : Int) := by omega
      have hnl := nl_le r
      go_upto_block 2 with (fail)
      go_cut [6] (fun n wx => n = .int .i64 (nl r : Int) ∧ wr = wx)
      case first =>
        go_wp2_with fail
        go_loop [6] (fun n => ∃ k : Nat, k ≤ nl r ∧ n = .int .i64 (k : Int)) (fun n => r.length - (RowKit.intOf n).toNat)
        case atStart => exact ⟨0, Nat.zero_le _, rfl⟩
        case round =>
          obtain ⟨k, hk, rfl⟩ := hrel
          by_cases hlt : k < nl r
          · have hkl : k < r.length := by omega
            have hno := nl_no r k hkl hlt
            obtain ⟨b, hb⟩ : ∃ b : UInt8, b = r[k] := ⟨_, rfl⟩
            rw [← hb] at hno
            have hne : ((b.toNat : Int) != 10) = true := by
              rw [bne_iff_ne]; intro h; apply hno; apply UInt8.toNat_inj.1; show b.toNat = 10; omega
            have hix : ∀ W : World, (Instr.index 9 (.string ⟨r.toArray⟩) (.int .i64 (k : Int))).run Tryd.prog W = .ok (.int .u8 (b.toNat : Int)) W := fun W => by rw [run_sidx W r k hkl, ← hb]
            have hb1 : (k : Int) < (r.length : Int) := by omega
            clear hb hno
            go_wp2_with fail
            go_round
            case rel => exact ⟨k + 1, by omega, by go_num⟩
            case measure => simp [RowKit.intOf]; omega
          · obtain rfl : k = nl r := by omega
            by_cases hend : nl r < r.length
            · have hat := nl_at r hend
              have hix : ∀ W : World, (Instr.index 9 (.string ⟨r.toArray⟩) (.int .i64 ((nl r : Nat) : Int))).run Tryd.prog W = .ok (.int .u8 10) W := fun W => by rw [run_sidx W r (nl r) hend, hat]; rfl
              have hb1 : ((nl r : Nat) : Int) < (r.length : Int) := by omega
              clear hat
              go_wp2_with fail
              go_meet
              exact ⟨rfl, rfl⟩
            · have hb1 : ¬ ((nl r : Nat) : Int) < (r.length : Int) := by omega
              go_wp2_with fail
              go_meet
              exact ⟨rfl, rfl⟩
      case rest =>
        obtain ⟨rfl, rfl⟩ := hcut
        have hseg := seg_eq r
        have hrest := rest_eq r
        have htl : (r.take (nl r + 1)).length ≤ r.length := by simp; omega
        go_wp2_with fail
        refine (call_any (r.take (nl r + 1)) _ (by omega)).mono ?_
        rintro e w1 ⟨dv, rfl, hdv, hb1⟩
        obtain ⟨A, c, rfl⟩ := OwnG.slice hdv
        have G1 := hbel.trans (hb1.mono hbel.size)
        have hs1 := hb1.size
        obtain ⟨cx, cd, hcc⟩ : ∃ cx cd, (cx, cd) = rcall (r.take (nl r + 1)) := ⟨_, _, rfl⟩
        have hci := rcall_int (r.take (nl r + 1))
        have hcl := rbytes_le ((r.take (nl r + 1)).drop (sp (r.take (nl r + 1)) + 1))
        have hcl' : cd.length ≤ 1000000 := by
          have : cd = rbytes ((r.take (nl r + 1)).drop (sp (r.take (nl r + 1)) + 1)) := by have h := congrArg Prod.snd hcc; exact h
          rw [this]; simp at hcl; omega
        rw [← hcc] at hdv hci ⊢
        dsimp only at hdv hci ⊢
        have HDV := Lib.hid hdv
        have HCC := Lib.hid hcc
        obtain ⟨hci0, hci1⟩ := hci
        clear hdv hcc hcl htl
        have hm0 : (0 : Int) ≤ min ((nl r : Int) + 1) (r.length : Int) := by omega
        have hm1 : min ((nl r : Int) + 1) (r.length : Int) ≤ (r.length : Int) := by omega
        go_wp2_with fail
        go_region_with (go_at_call 17; refine (line_any cx _ cd _ hci0 hci1 ((HDV.out.bytesAt (by omega)).below ((Below.refl _ _).alloc (Nat.le_refl _) _).drew) hcl').mono ?_; rintro e' w2 ⟨rfl, hb2⟩; obtain ⟨hc2, hf2⟩ := bcell hb2)
        have G2 : Below wr.heap.size wr w2 := hb1.trans ((((Below.refl _ _).alloc (Nat.le_refl _) _).drew.trans (hb2.mono (by simp))).mono hs1)
        have G3 : Below w.heap.size w w2 := hbel.trans (G2.mono hbel.size)
        have hr7 : w2.heap[w1.heap.size]? = some (.cells #[.int .i64 cx, .slice A cd.length c] 36) := (hb2.block _ (by simp)).trans (h_new w1 _)
        have c70 : w2.cell? ⟨w1.heap.size, 0, none⟩ = some (.int .i64 cx) := cell_of_row w2 w1.heap.size 0 _ _ _ hr7
        have c71 : w2.cell? ⟨w1.heap.size, 1, none⟩ = some (.slice A cd.length c) := cell_of_row w2 w1.heap.size 1 _ _ _ hr7
        have hz : w1.heap.size < w2.heap.size := by have := hb2.size; simp at this; omega
        have HOw : Hid (OwnC w2 w.heap.size (.slice oA L.length oc) L) := Lib.hid (HO.out.below G2)
        have HDw : Hid (OwnB w2 w.heap.size (.slice A cd.length c) cd) := Lib.hid (OwnG.low (OwnG.below HDV.out (((Below.refl _ _).alloc (Nat.le_refl _) _).drew.trans (hb2.mono (by simp)))) hbel.size)
        clear hb1 hb2 hc2 hf2 hr7 hseg
        go_wp2_with fail
        · have hqb : (!line (cx, cd) == r.take (nl r + 1)) = true := by assumption
          have hq : ¬ line (cx, cd) = r.take (nl r + 1) := by simpa using hqb
          have hno := ref_bad' (s := r) (by rw [← HCC.out]; exact hq)
          go_ret3
          exact ⟨⟨.bad L.length, ⟨L, r, HR.out, HV.out, rfl, fun h => by rw [h] at hr0; simp at hr0, hno⟩, rfl⟩, G3⟩
        · have hqb : (!line (cx, cd) == r.take (nl r + 1)) = false := by assumption
          have hq : line (cx, cd) = r.take (nl r + 1) := by simpa using hqb
          have HQ := Lib.hid hq
          clear hq hqb
          go_region_law (refine step_append_C (c := (cx, cd)) (dv := .slice A cd.length c) rfl (.tmp 40) (.tmp 42) (by rfl) (by rfl) (HOw.out.below ((Below.refl _ _).drew.alloc (Nat.le_refl _) _)) (by rfl) (two_cells _ _ _ _) (OwnG.below HDw.out ((Below.refl _ _).drew.alloc (Nat.le_refl _) _)) hcl' hLn (by have := G3.size; simp; omega) ?_; intro v' w3 hown3 hgr3 hge3)
          all_goals go_wp2_with fail
          all_goals
            have hb3 : Below w.heap.size w w3 := (HOw.out.grown G3 (((Below.refl _ _).alloc (Nat.le_refl _) _).drew) hgr3).1
            go_roundg (r.length - (nl r + 1))
            case measure => omega
            case rel =>
              refine ⟨r.drop (nl r + 1), L ++ [(cx, cd)], rfl, ?_, ?_, by simp, hown3, hb3⟩
              · rw [fmt_append, fmt, fmt, List.append_nil, HQ.out, List.append_assoc, List.take_append_drop]; exact HR.out
              · intro d hd
                rcases List.mem_append.1 hd with hd | hd
                · exact HV.out d hd
                · rw [List.mem_singleton.1 hd]; exact ⟨hci0, hci1⟩
    · go_wp2_with fail
      have hr : r = [] := List.eq_nil_of_length_eq_zero (by omega)
      go_ret3
      subst hr
      have hl' : l = fmt L := by have := HR.out; simpa using this
      exact ⟨⟨.ok L, ⟨hl', HV.out⟩, _, rfl, HO.out.callsAt hLn⟩, hbel⟩
end Go.Proofs.Scr
