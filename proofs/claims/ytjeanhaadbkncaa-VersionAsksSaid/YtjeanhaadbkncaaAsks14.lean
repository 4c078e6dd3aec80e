/- The walk of VersionAsks: it returns true. -/
import Derived.Test.YtjeanhaadbkncaaAwake14
import Derived.Test.YtjeanhaadbkncaaNums
import Derived.Test.YtjeanhaadbkncaaNumsLaw
import Derived.Test.YtjeanhaadbkncaaSize
import Derived.Test.YtjeanhaadbkncaaSame
import Derived.Deep.RegionHeld3
namespace Go.Proofs.Ytjeanhaadbkncaa
open Go.RowKit

theorem overL_le {L : Nat → List Fl} (h : ∀ i, i < 4 → (L i).length ≤ 1000000) (lv : Int) (fr tu : ByteArray) : (overL L lv fr tu).length ≤ 1000000 := by
  unfold overL
  split
  · simp
  · exact Nat.le_trans (List.length_filter_le _ _) (h _ (by omega))
theorem askS_count (L : Nat → List Fl) (us : ByteArray) : (askS L us 4).length ≤ count L := by
  have h0 := List.length_filter_le (fun f : Fl => hasU f.su f.lu us us) (L 0)
  have h1 := List.length_filter_le (fun f : Fl => hasU f.su f.lu us us) (L 1)
  have h2 := List.length_filter_le (fun f : Fl => hasU f.su f.lu us us) (L 2)
  have h3 := List.length_filter_le (fun f : Fl => hasU f.su f.lu us us) (L 3)
  simp only [askS, overS, List.length_append, List.length_nil, count]
  omega
theorem sameS_refl (l : List Fl) : sameS l l = true := (sameS_iff l l).2 rfl

set_option maxRecDepth 100000 in
set_option maxHeartbeats 4000000 in
theorem asks14_any (ao : Nat → Option Addr) (L : Nat → List Fl) (c : Nat → Nat) (lv : Int) (fr tu : ByteArray) (w : World) (hv : ∀ i, i < 4 → At w encF 9 (ao i) (c i) (L i)) (hc : ∀ i, i < 4 → (L i).length ≤ 140737488351232) :
    Calls Try.prog 8 #[.agg #[.slice (ao 0) (L 0).length (c 0), .slice (ao 1) (L 1).length (c 1), .slice (ao 2) (L 2).length (c 2), .slice (ao 3) (L 3).length (c 3)], .int .i64 lv, .string fr, .string tu] w fun e w' => e = .returned (.bool true) ∧ Below w.heap.size w w' := by
  obtain ⟨W0, hW0⟩ : ∃ W0, W0 = w.alloc (.cells #[.slice (ao 0) (L 0).length (c 0), .slice (ao 1) (L 1).length (c 1), .slice (ao 2) (L 2).length (c 2), .slice (ao 3) (L 3).length (c 3)] 26) := ⟨_, rfl⟩
  have hvv : Var W0 w.heap.size #[.slice (ao 0) (L 0).length (c 0), .slice (ao 1) (L 1).length (c 1), .slice (ao 2) (L 2).length (c 2), .slice (ao 3) (L 3).length (c 3)] 26 := by rw [hW0]; exact Var.new _ _ _
  have hlt0 : w.heap.size < W0.heap.size := by rw [hW0]; simp
  have hb0 : Below w.heap.size w W0 := by rw [hW0]; exact bal (Below.refl _ _) _
  have HAT := Lib.hid (fun i hi => (hv i hi).below hb0)
  have v0 := hvv.cell 0
  have v1 := hvv.cell 1
  have v2 := hvv.cell 2
  have v3 := hvv.cell 3
  have HV := Lib.hid hvv
  have HW := Lib.hid hW0
  have HC := Lib.hid hc
  clear hW0 hv hvv hc
  cases hm : decide (1000 < count L) with
  | true =>
    have HM := Lib.hid hm
    clear hm
    go_enter Try.func8, Try.ntmps8
    go_wp2_with (first
      | (go_at_call 9; rw [← HW.out]; refine (awake14_any _).mono ?_; rintro e w1 ⟨rfl, hb1⟩; have x0 := kcell hb1 hlt0 v0; have x1 := kcell hb1 hlt0 v1; have x2 := kcell hb1 hlt0 v2; have x3 := kcell hb1 hlt0 v3)
      | (go_at_call 10; refine (many_any ao L c _ HC.out).mono ?_; rw [HM.out]; rintro e w2 ⟨rfl, hb2⟩))
    go_ret
    exact ⟨rfl, btr (btr hb0 hb1) hb2⟩
  | false =>
    have hsz : ∀ i, i < 4 → (L i).length ≤ 1000000 := by
      have := of_decide_eq_false hm
      unfold count at this
      intro i hi
      rcases (show i = 0 ∨ i = 1 ∨ i = 2 ∨ i = 3 by omega) with rfl | rfl | rfl | rfl <;> omega
    have HM := Lib.hid hm
    have HSZ := Lib.hid hsz
    have HRL := Lib.hid (risen_laid (seenS L 4 0))
    obtain ⟨ns, hns⟩ : ∃ ns, ns = laidN (seenS L 4 0) := ⟨_, rfl⟩
    have HNS := Lib.hid hns
    have hnl : ns.length ≤ 5000000 := by rw [hns, laidN_len, seenS_next]; exact seenS_len L 3 _ (by omega) hsz
    have HNL := Lib.hid hnl
    clear hm hns hsz
    go_enter Try.func8, Try.ntmps8
    go_wp2_with (first
      | (go_at_call 9; rw [← HW.out]; refine (awake14_any _).mono ?_; rintro e w1 ⟨rfl, hb1⟩; have B1 := Lib.hid hb1; have x0 := kcell hb1 hlt0 v0; have x1 := kcell hb1 hlt0 v1; have x2 := kcell hb1 hlt0 v2; have x3 := kcell hb1 hlt0 v3; clear hb1)
      | (go_at_call 10; refine (many_any ao L c _ HC.out).mono ?_; rw [HM.out]; rintro e w2 ⟨rfl, hb2⟩; have B2 := Lib.hid (btr B1.out hb2); have x0 := kcell B2.out hlt0 v0; have x1 := kcell B2.out hlt0 v1; have x2 := kcell B2.out hlt0 v2; have x3 := kcell B2.out hlt0 v3; clear hb2)
      | (go_at_call 21; refine (over_any ao L c lv fr tu _ (fun i hi => (HAT.out i hi).below B2.out) HSZ.out).mono ?_; rintro e w3 ⟨ao3, c3, rfl, hat3, hb3⟩; have B3 := Lib.hid (btr B2.out hb3); have x0 := kcell B3.out hlt0 v0; have x1 := kcell B3.out hlt0 v1; have x2 := kcell B3.out hlt0 v2; have x3 := kcell B3.out hlt0 v3; have HA3 := Lib.hid hat3; clear hb3 hat3)
      | (go_at_call 23; refine (refOver_any ao L c lv fr tu _ (fun i hi => (HAT.out i hi).below B3.out) HSZ.out).mono ?_; rintro e w4 ⟨ao4, c4, rfl, hat4, hb4⟩; have B4 := Lib.hid (btr B3.out hb4); have x0 := kcell B4.out hlt0 v0; have x1 := kcell B4.out hlt0 v1; have x2 := kcell B4.out hlt0 v2; have x3 := kcell B4.out hlt0 v3; have HA4 := Lib.hid hat4; have HB4 := Lib.hid hb4; clear hb4 hat4)
      | (go_at_call 24; refine (ask_any ao L c fr _ (fun i hi => (HAT.out i hi).below B4.out) HSZ.out).mono ?_; rintro e w5 ⟨ao5, c5, rfl, hat5, hb5⟩; have B5 := Lib.hid (btr B4.out hb5); have x0 := kcell B5.out hlt0 v0; have x1 := kcell B5.out hlt0 v1; have x2 := kcell B5.out hlt0 v2; have x3 := kcell B5.out hlt0 v3; have HA5 := Lib.hid hat5; have HB5 := Lib.hid hb5; clear hb5 hat5)
      | (go_at_call 25; refine (refAsk_any ao L c fr _ (fun i hi => (HAT.out i hi).below B5.out) HSZ.out).mono ?_; rintro e w6 ⟨ao6, c6, rfl, hat6, hb6⟩; have B6 := Lib.hid (btr B5.out hb6); have x0 := kcell B6.out hlt0 v0; have x1 := kcell B6.out hlt0 v1; have x2 := kcell B6.out hlt0 v2; have x3 := kcell B6.out hlt0 v3; have HA6 := Lib.hid hat6; have HB6 := Lib.hid hb6; clear hb6 hat6)
      | (go_at_call_of 26 (Value.slice ao3 (overL L lv fr tu).length c3); refine (sameFiles_any ao3 c3 (overL L lv fr tu) ao4 c4 (overL L lv fr tu) _ (((HA3.out.below HB4.out).below HB5.out).below HB6.out) ((HA4.out.below HB5.out).below HB6.out) (overL_le HSZ.out lv fr tu)).mono ?_; rw [sameS_refl]; rintro e w7 ⟨rfl, n7, rfl⟩; have tok7 : True := trivial)
      | (go_at_call_of 26 (Value.slice ao5 (askS L fr 4).length c5); refine (sameFiles_any ao5 c5 (askS L fr 4) ao6 c6 (askS L fr 4) _ ((HA5.out.below HB6.out).drewN n7) (HA6.out.drewN n7) (Nat.le_trans (askS_count L fr) (by have := of_decide_eq_false HM.out; omega))).mono ?_; rw [sameS_refl]; rintro e w8 ⟨rfl, n8, rfl⟩)
      | (go_at_call 22; have B8 := Lib.hid (bdrn B6.out (n7 + n8)); refine (nums_any ao L c _ (fun i hi => (HAT.out i hi).below B8.out) HSZ.out).mono ?_; rw [HRL.out, ← HNS.out]; rintro e w9 ⟨ao9, c9, rfl, hat9, hb9⟩; have B9 := Lib.hid (btr B8.out hb9); have x0 := kcell B9.out hlt0 v0; have x1 := kcell B9.out hlt0 v1; have x2 := kcell B9.out hlt0 v2; have x3 := kcell B9.out hlt0 v3; have HA9 := Lib.hid hat9; clear hb9 hat9)
      | (go_at_call 27; refine (refNums_any ao L c _ (fun i hi => (HAT.out i hi).below B9.out) HSZ.out).mono ?_; rw [← HNS.out]; rintro e w10 ⟨ao10, c10, rfl, hat10, hb10⟩; have B10 := Lib.hid (btr B9.out hb10); have HA9' := Lib.hid (HA9.out.below hb10); have HA10 := Lib.hid hat10; clear hb10 hat10))
    go_loopw [18] (fun i wr => ∃ k : Nat, k ≤ ns.length ∧ i = .int .i64 k ∧ Below w10.heap.size w10 wr) (fun i _ => ns.length - (intOf i).toNat)
    case atStart => exact ⟨0, Nat.zero_le _, rfl, Below.refl _ _⟩
    case round =>
      obtain ⟨k, hk, rfl, hb⟩ := hrel
      by_cases hltk : k < ns.length
      · obtain ⟨y, hy⟩ : ∃ y, ns[k]? = some y := ⟨_, List.getElem?_eq_getElem hltk⟩
        obtain ⟨b1, off1, hbl1, hix1, hcs1⟩ := idx_at (P := Try.prog) (HA9'.out.below hb) 55 33 Try.underlying55 Try.sizeOf33 hy
        obtain ⟨b2, off2, hbl2, hix2, hcs2⟩ := idx_at (P := Try.prog) (HA10.out.below hb) 55 33 Try.underlying55 Try.sizeOf33 hy
        have d1 : wr.cell? ⟨b1, off1 + k, none⟩ = some (.int .u64 y) := by have := hcs1 0 _ rfl; rwa [Nat.mul_one, Nat.add_zero] at this
        have d2 : wr.cell? ⟨b2, off2 + k, none⟩ = some (.int .u64 y) := by have := hcs2 0 _ rfl; rwa [Nat.mul_one, Nat.add_zero] at this
        have hne : (y != y) = false := by simp
        clear hy hcs1 hcs2
        go_wp2
        go_quiet (fail)
        go_wp2
        go_roundw
        case rel => exact ⟨k + 1, by omega, by go_num, bdrn hb nq⟩
        case measure => simp [intOf]; omega
      · obtain rfl : k = ns.length := by omega
        have B11 := Lib.hid (btr B10.out hb)
        obtain ⟨W11, hW11⟩ : ∃ W11, W11 = wr := ⟨_, rfl⟩
        subst hW11
        clear hb
        have hl11 : w.heap.size < W11.heap.size := Nat.lt_of_lt_of_le hlt0 B11.out.size
        have y0 := kcell B11.out hlt0 v0
        have y1 := kcell B11.out hlt0 v1
        have y2 := kcell B11.out hlt0 v2
        have y3 := kcell B11.out hlt0 v3
        go_wp2_with fail
        obtain ⟨S, hS⟩ : ∃ S, S = sizeL L lv := ⟨_, rfl⟩
        have HSS := Lib.hid hS
        have hse : (S == S) = true := by simp
        clear hS
        go_region_held3 (fun wh => wh.cell? ⟨w.heap.size, 0, none⟩ = some (.slice (ao 0) (L 0).length (c 0)) ∧ wh.cell? ⟨w.heap.size, 1, none⟩ = some (.slice (ao 1) (L 1).length (c 1)) ∧ wh.cell? ⟨w.heap.size, 2, none⟩ = some (.slice (ao 2) (L 2).length (c 2)) ∧ wh.cell? ⟨w.heap.size, 3, none⟩ = some (.slice (ao 3) (L 3).length (c 3)) ∧ Below W11.heap.size W11 wh)
          ((go_split_ands; (repeat' apply And.intro) <;> first | (with_reducible assumption) | (refine kcell ?_ hl11 y0; (repeat (first | exact Below.refl _ _ | (with_reducible assumption) | refine bal ?_ _ | refine bdr ?_ | refine bdrn ?_ _ | refine btr ?_ (by with_reducible assumption)))) | (refine kcell ?_ hl11 y1; (repeat (first | exact Below.refl _ _ | (with_reducible assumption) | refine bal ?_ _ | refine bdr ?_ | refine bdrn ?_ _ | refine btr ?_ (by with_reducible assumption)))) | (refine kcell ?_ hl11 y2; (repeat (first | exact Below.refl _ _ | (with_reducible assumption) | refine bal ?_ _ | refine bdr ?_ | refine bdrn ?_ _ | refine btr ?_ (by with_reducible assumption)))) | (refine kcell ?_ hl11 y3; (repeat (first | exact Below.refl _ _ | (with_reducible assumption) | refine bal ?_ _ | refine bdr ?_ | refine bdrn ?_ _ | refine btr ?_ (by with_reducible assumption)))) | (repeat (first | exact Below.refl _ _ | (with_reducible assumption) | refine bal ?_ _ | refine bdr ?_ | refine bdrn ?_ _ | refine btr ?_ (by with_reducible assumption)))))
          (first
            | (go_at_call 28; go_split_ands; refine (size_any ao L c lv _ (fun i hi => ((HAT.out i hi).below B11.out).below ?_) HSZ.out).mono ?_; (repeat (first | exact Below.refl _ _ | (with_reducible assumption) | refine bal ?_ _ | refine bdr ?_ | refine bdrn ?_ _ | refine btr ?_ (by with_reducible assumption))); rw [← HSS.out]; rintro e w12 ⟨rfl, hb12⟩)
            | (go_at_call 29; go_split_ands; refine (refSize_any ao L c lv _ (fun i hi => ((HAT.out i hi).below B11.out).below ?_) HSZ.out).mono ?_; (repeat (first | exact Below.refl _ _ | (with_reducible assumption) | refine bal ?_ _ | refine bdr ?_ | refine bdrn ?_ _ | refine btr ?_ (by with_reducible assumption))); rw [← HSS.out]; rintro e w13 ⟨rfl, hb13⟩))
        all_goals go_wp2
        all_goals go_ret
        all_goals refine ⟨rfl, btr (btr hb0 B11.out) ?_⟩
        all_goals (repeat (first | exact Below.refl _ _ | (with_reducible assumption) | refine bal ?_ _ | refine bdr ?_ | refine bdrn ?_ _ | refine btr ?_ (by with_reducible assumption)))

end Go.Proofs.Ytjeanhaadbkncaa
