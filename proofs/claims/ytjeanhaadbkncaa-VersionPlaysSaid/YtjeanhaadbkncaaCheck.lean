/- The walk of version.Check. -/
import Derived.Test.YtjeanhaadbkncaaSeen
namespace Go.Proofs.Ytjeanhaadbkncaa
open Go.RowKit Go.Maps

set_option maxRecDepth 100000 in
set_option maxHeartbeats 4000000 in
theorem check_any (ao : Nat → Option Addr) (L : Nat → List Fl) (c : Nat → Nat) (w : World) (hv : ∀ i, i < 4 → At w encF 9 (ao i) (c i) (L i)) (hsz : ∀ i, i < 4 → (L i).length ≤ 1000000) (hwf : ∀ i, i < 4 → ∀ f ∈ L i, WfF f) :
    Calls Try.prog 15 #[.agg #[.slice (ao 0) (L 0).length (c 0), .slice (ao 1) (L 1).length (c 1), .slice (ao 2) (L 2).length (c 2), .slice (ao 3) (L 3).length (c 3)]] w fun e w' => e = .returned (.int .i64 (checkS L)) ∧ Below w.heap.size w w' := by
  have hmm := @run_makeMap Try.prog
  have hidx : ∀ (n : Nat), n < 4 → ∀ w, (Instr.index 24 (.agg #[.slice (ao 0) (L 0).length (c 0), .slice (ao 1) (L 1).length (c 1), .slice (ao 2) (L 2).length (c 2), .slice (ao 3) (L 3).length (c 3)]) (.int .i64 (n : Int))).run Try.prog w = .ok (.slice (ao n) (L n).length (c n)) w := by
    intro n hn w
    rcases (show n = 0 ∨ n = 1 ∨ n = 2 ∨ n = 3 by omega) with rfl | rfl | rfl | rfl <;> kernel_rfl
  obtain ⟨W0, hW0⟩ : ∃ W0, W0 = w.alloc (.cells #[.slice (ao 0) (L 0).length (c 0), .slice (ao 1) (L 1).length (c 1), .slice (ao 2) (L 2).length (c 2), .slice (ao 3) (L 3).length (c 3)] 26) := ⟨_, rfl⟩
  have hb0 : Below w.heap.size w W0 := by rw [hW0]; exact bal (Below.refl _ _) _
  have HS : Hid (W0.heap.size = w.heap.size + 1) := by show _ = _; rw [hW0]; simp
  have HAT := Lib.hid (fun i hi => (hv i hi).below hb0)
  have HW := Lib.hid hW0
  have HIDX := Lib.hid hidx
  have HWF := Lib.hid hwf
  clear hv hW0 hidx hwf
  go_enter Try.func15, Try.ntmps15
  go_wp2_with fail
  go_loopw [13] (fun i wr => ∃ n : Nat, n ≤ 4 ∧ i = .int .i64 n ∧ Hid (∀ k, k < n → ∀ (i : Nat) (f : Fl), (L k)[i]? = some f → okAt L k i f = true) ∧ SeenM wr (w.heap.size + 1) (seenS L n 0) ∧ Below W0.heap.size W0 wr) (fun i _ => 4 - (intOf i).toNat)
  case atStart => exact ⟨0, Nat.zero_le _, rfl, Lib.hid (fun j hj => by omega), by rw [← HS.out, HW.out]; exact SeenM.made _, by rw [HW.out]; exact bal (Below.refl _ _) _⟩
  case round =>
    obtain ⟨n, hn, rfl, hok, hseen, hb⟩ := hrel
    by_cases hlt : n < 4
    · have hix := HIDX.out n hlt
      have hlen := hsz n hlt
      have hd4 : decide ((n : Int) < 4) = true := by simp; omega
      go_wp2_with fail
      go_loopw [19] (fun i wr => ∃ m : Nat, m ≤ (L n).length ∧ i = .int .i64 m ∧ Hid (∀ (j : Nat), j < m → ∀ f, (L n)[j]? = some f → okAt L n j f = true) ∧ SeenM wr (w.heap.size + 1) (seenS L n m) ∧ Below W0.heap.size W0 wr) (fun i _ => (L n).length - (intOf i).toNat)
      case atStart => exact ⟨0, Nat.zero_le _, rfl, Lib.hid (fun j hj => by omega), hseen, hb⟩
      case round =>
        clear hb hseen
        obtain ⟨m, hm, rfl, hok2, hseen, hb⟩ := hrel
        by_cases hltm : m < (L n).length
        · obtain ⟨f, hf⟩ : ∃ f, (L n)[m]? = some f := ⟨_, List.getElem?_eq_getElem hltm⟩
          obtain ⟨b, off, hbl, hix2, hcs⟩ := idx_at (P := Try.prog) ((HAT.out n hlt).below hb) 23 50 Try.underlying23 Try.sizeOf50 hf
          have hw := HWF.out n hlt f (List.mem_of_getElem? hf)
          have hlook := fun o => (hseen.below (bal (Below.refl _ wr) o)).look hw
          have HG := Lib.hid hf
          have HOK : Hid (okAt L n m f = (f.lv == (n : Int) && !((seenS L n m).contains f.nu) && fileS f == 0 && (m == 0 || match (L n)[m - 1]? with | some p => behindS n p f | none => true))) := rfl
          have HW2 := Lib.hid hw
          clear hf hw
          obtain ⟨lv, nu, sz, su, ss, sk, lu, ls, lk⟩ := f
          obtain ⟨e0, e1, e2, e3, e4, e5, e6, e7, e8⟩ := file_cells hcs
          dsimp only at e0 e1 e2 e3 e4 e5 e6 e7 e8 hlook HOK
          clear hcs
          have hsl := Lib.hid (show (seenS L n m).length < maxLen by have := seenS_len L n m hlt hsz; unfold maxLen; omega)
          have hlt3 : ∀ W : World, wr.heap.size < W.heap.size → w.heap.size + 1 < W.heap.size := fun W h => by have := hseen.lt; omega
          by_cases hm0 : m = 0
          · have hm1 : (m : Int) ≤ 0 := by omega
            have HM0 : Hid ((m == 0) = true) := by show (m == 0) = true; simp [hm0]
            clear hm0
            cases h1 : (lv != (n : Int))
            · have B1 : Hid ((lv == (n : Int)) = true) := by show (lv == (n : Int)) = true; simpa using h1
              cases h2 : (seenS L n m).contains nu
              · rw [h2] at hlook
                have H2 := Lib.hid h2
                clear h2
                by_cases h3 : fileS ⟨lv, nu, sz, su, ss, sk, lu, ls, lk⟩ = 0
                · have n3 : (fileS ⟨lv, nu, sz, su, ss, sk, lu, ls, lk⟩ != 0) = false := by simp [h3]
                  have B3 : Hid ((fileS ⟨lv, nu, sz, su, ss, sk, lu, ls, lk⟩ == 0) = true) := by show (fileS ⟨lv, nu, sz, su, ss, sk, lu, ls, lk⟩ == 0) = true; simp [h3]
                  clear h3
                  go_wp2_with (first | (go_at_call 31; refine (edit_one ⟨lv, nu, sz, su, ss, sk, lu, ls, lk⟩ _ _ (at_one' _ encF 9 _ encF_len ⟨lv, nu, sz, su, ss, sk, lu, ls, lk⟩ _ rfl (by simp))).mono ?_; rintro e w1 ⟨rfl, hb1⟩; obtain ⟨hc1, hf1⟩ := bcell hb1; have hz1 : wr.heap.size < w1.heap.size := (by have := hb1.size; simp at this; omega); have hz2 : b < w1.heap.size := (by omega); have hz3 := hlt3 w1 hz1) | (at_mapUpdate; obtain ⟨D, hD1, hD2, hD3⟩ := (hseen.below (btr (bal (bal (Below.refl _ wr) _) _) hb1)); refine wpList_mapUpdate_own _ rfl (.tmp 74) (.tmp 76) (.const (.bool true)) 76 rfl 33 4 nums_keyed Try.underlying76 (plainElem Try.prog 4) (w.heap.size + 1) _ D rfl hD1 hsl.out _ _ (.int .u64 nu) rfl rfl (keyOf_int_mk Try.underlying33 HW2.out) (.lit (.bool true)) [] (plainElem_bool Try.underlying4 true) ?_; intro w2 hown2 hgrow2))
                  go_wp2
                  go_roundw
                  case rel =>
                    refine ⟨m + 1, by omega, by go_num, Lib.hid (fun j hj f hf => ?_), by rw [seenS_step L n m _ HG.out]; exact SeenM.put HW2.out hD2 hD3 hown2, (btr (bal (bal hb _) _) hb1).grown hgrow2 (Below.size (btr (bal (bal hb _) _) hb1)) (fun k hk => by cases hk; rw [HS.out]; exact Nat.le_refl _)⟩
                    by_cases hjm : j = m
                    · subst hjm; rw [HG.out] at hf; cases hf; rw [HOK.out]; simp only [B1.out, H2.out, B3.out, HM0.out, Bool.not_false, Bool.and_true, Bool.true_or]
                    · exact hok2.out j (by omega) f hf
                  case measure => simp [intOf]; omega
                · have n3 : (fileS ⟨lv, nu, sz, su, ss, sk, lu, ls, lk⟩ != 0) = true := by simp [h3]
                  have B3 : Hid ((fileS ⟨lv, nu, sz, su, ss, sk, lu, ls, lk⟩ == 0) = false) := by show (fileS ⟨lv, nu, sz, su, ss, sk, lu, ls, lk⟩ == 0) = false; simp [h3]
                  clear h3
                  go_wp2_with (go_at_call 31; refine (edit_one ⟨lv, nu, sz, su, ss, sk, lu, ls, lk⟩ _ _ (at_one' _ encF 9 _ encF_len ⟨lv, nu, sz, su, ss, sk, lu, ls, lk⟩ _ rfl (by simp))).mono ?_; rintro e w1 ⟨rfl, hb1⟩; obtain ⟨hc1, hf1⟩ := bcell hb1; have hz1 : wr.heap.size < w1.heap.size := (by have := hb1.size; simp at this; omega); have hz2 : b < w1.heap.size := (by omega); have hz3 := hlt3 w1 hz1)
                  go_ret
                  exact ⟨ret_int (by rw [checkS_bad hlt HG.out (by rw [HOK.out]; simp only [B3.out, Bool.and_false, Bool.false_and])]), btr hb0 (by repeat (first | exact Below.refl _ _ | (with_reducible assumption) | refine bal ?_ _ | refine bset ?_ (by simp) _ | refine bdr ?_ | refine btr ?_ (by with_reducible assumption)))⟩
              · rw [h2] at hlook
                have H2 := Lib.hid h2
                clear h2
                go_wp2
                go_ret
                exact ⟨ret_int (by rw [checkS_bad hlt HG.out (by rw [HOK.out]; simp only [H2.out, Bool.not_true, Bool.and_false, Bool.false_and])]), btr hb0 (by repeat (first | exact Below.refl _ _ | (with_reducible assumption) | refine bal ?_ _ | refine bset ?_ (by simp) _ | refine bdr ?_ | refine btr ?_ (by with_reducible assumption)))⟩
            · have B1 : Hid ((lv == (n : Int)) = false) := by show (lv == (n : Int)) = false; simpa using h1
              go_wp2
              go_ret
              exact ⟨ret_int (by rw [checkS_bad hlt HG.out (by rw [HOK.out]; simp only [B1.out, Bool.false_and])]), btr hb0 (by repeat (first | exact Below.refl _ _ | (with_reducible assumption) | refine bal ?_ _ | refine bset ?_ (by simp) _ | refine bdr ?_ | refine btr ?_ (by with_reducible assumption)))⟩
          · have hm1 : 1 ≤ (m : Int) := by omega
            obtain ⟨p, hp⟩ : ∃ p, (L n)[m - 1]? = some p := ⟨_, List.getElem?_eq_getElem (by omega)⟩
            obtain ⟨b', off', hbl', hix3, hcs'⟩ := idx_at (P := Try.prog) ((HAT.out n hlt).below hb) 23 50 Try.underlying23 Try.sizeOf50 hp
            have hix3 : ∀ (kd : IntKind) (wx : World), (Instr.indexAt 23 (.slice (ao n) (L n).length (c n)) (.int kd ((m : Int) - 1))).run Try.prog wx = .ok (.pointer (some ⟨b', off' + (m - 1) * 9, none⟩)) wx := fun kd wx => by
              have := hix3 kd wx
              rwa [show ((m - 1 : Nat) : Int) = (m : Int) - 1 by omega] at this
            have HOK : Hid (okAt L n m ⟨lv, nu, sz, su, ss, sk, lu, ls, lk⟩ = (lv == (n : Int) && !((seenS L n m).contains nu) && fileS ⟨lv, nu, sz, su, ss, sk, lu, ls, lk⟩ == 0 && behindS n p ⟨lv, nu, sz, su, ss, sk, lu, ls, lk⟩)) := by
              show okAt L n m _ = _
              rw [HOK.out, hp, show (m == 0) = false by simp; omega]
              simp only [Bool.false_or]
            have HP := Lib.hid hp
            clear hp hm0
            obtain ⟨plv, pnu, psz, psu, pss, psk, plu, pls, plk⟩ := p
            obtain ⟨p0, p1, p2, p3, p4, p5, p6, p7, p8⟩ := file_cells hcs'
            dsimp only at p0 p1 p2 p3 p4 p5 p6 p7 p8
            clear hcs'
            cases h1 : (lv != (n : Int))
            · have B1 : Hid ((lv == (n : Int)) = true) := by show (lv == (n : Int)) = true; simpa using h1
              cases h2 : (seenS L n m).contains nu
              · rw [h2] at hlook
                have H2 := Lib.hid h2
                clear h2
                by_cases h3 : fileS ⟨lv, nu, sz, su, ss, sk, lu, ls, lk⟩ = 0
                · have n3 : (fileS ⟨lv, nu, sz, su, ss, sk, lu, ls, lk⟩ != 0) = false := by simp [h3]
                  have B3 : Hid ((fileS ⟨lv, nu, sz, su, ss, sk, lu, ls, lk⟩ == 0) = true) := by show (fileS ⟨lv, nu, sz, su, ss, sk, lu, ls, lk⟩ == 0) = true; simp [h3]
                  clear h3
                  by_cases hn0 : n = 0
                  · have hn1 : ((n : Int) == 0) = true := by simp [hn0]
                    have hn2 : (n : Int) ≤ 0 := by omega
                    have HB : Hid (behindS n ⟨plv, pnu, psz, psu, pss, psk, plu, pls, plk⟩ ⟨lv, nu, sz, su, ss, sk, lu, ls, lk⟩ = decide (nu < pnu)) := by show behindS n _ _ = _; unfold behindS; rw [if_pos hn0]
                    clear hn0
                    by_cases hq : pnu ≤ nu
                    · have BQ : Hid (behindS n ⟨plv, pnu, psz, psu, pss, psk, plu, pls, plk⟩ ⟨lv, nu, sz, su, ss, sk, lu, ls, lk⟩ = false) := by show behindS n _ _ = _; rw [HB.out]; simp; omega
                      go_wp2_with (go_at_call 31; refine (edit_one ⟨lv, nu, sz, su, ss, sk, lu, ls, lk⟩ _ _ (at_one' _ encF 9 _ encF_len ⟨lv, nu, sz, su, ss, sk, lu, ls, lk⟩ _ rfl (by simp))).mono ?_; rintro e w1 ⟨rfl, hb1⟩; obtain ⟨hc1, hf1⟩ := bcell hb1; have hz1 : wr.heap.size < w1.heap.size := (by have := hb1.size; simp at this; omega); have hz2 : b < w1.heap.size := (by omega); have hz4 : b' < w1.heap.size := (by omega); have hz3 := hlt3 w1 hz1; have hB1 : Below wr.heap.size wr w1 := btr (bal (bal (Below.refl _ wr) _) _) hb1; have q0 := (hB1.cell (p := ⟨b', off' + (m - 1) * 9, none⟩) hbl').trans p0; have q1 := (hB1.cell (p := ⟨b', off' + (m - 1) * 9 + 1, none⟩) hbl').trans p1; have q2 := (hB1.cell (p := ⟨b', off' + (m - 1) * 9 + 2, none⟩) hbl').trans p2; have q3 := (hB1.cell (p := ⟨b', off' + (m - 1) * 9 + 3, none⟩) hbl').trans p3; have q4 := (hB1.cell (p := ⟨b', off' + (m - 1) * 9 + 4, none⟩) hbl').trans p4; have q5 := (hB1.cell (p := ⟨b', off' + (m - 1) * 9 + 5, none⟩) hbl').trans p5; have q6 := (hB1.cell (p := ⟨b', off' + (m - 1) * 9 + 6, none⟩) hbl').trans p6; have q7 := (hB1.cell (p := ⟨b', off' + (m - 1) * 9 + 7, none⟩) hbl').trans p7; have q8 := (hB1.cell (p := ⟨b', off' + (m - 1) * 9 + 8, none⟩) hbl').trans p8)
                      go_ret
                      exact ⟨ret_int (by rw [checkS_bad hlt HG.out (by rw [HOK.out]; simp only [BQ.out, Bool.and_false])]), btr hb0 (by repeat (first | exact Below.refl _ _ | (with_reducible assumption) | refine bal ?_ _ | refine bset ?_ (by simp) _ | refine bdr ?_ | refine btr ?_ (by with_reducible assumption)))⟩
                    · have BQ : Hid (behindS n ⟨plv, pnu, psz, psu, pss, psk, plu, pls, plk⟩ ⟨lv, nu, sz, su, ss, sk, lu, ls, lk⟩ = true) := by show behindS n _ _ = _; rw [HB.out]; simp; omega
                      go_wp2_with (first | (go_at_call 31; refine (edit_one ⟨lv, nu, sz, su, ss, sk, lu, ls, lk⟩ _ _ (at_one' _ encF 9 _ encF_len ⟨lv, nu, sz, su, ss, sk, lu, ls, lk⟩ _ rfl (by simp))).mono ?_; rintro e w1 ⟨rfl, hb1⟩; obtain ⟨hc1, hf1⟩ := bcell hb1; have hz1 : wr.heap.size < w1.heap.size := (by have := hb1.size; simp at this; omega); have hz2 : b < w1.heap.size := (by omega); have hz4 : b' < w1.heap.size := (by omega); have hz3 := hlt3 w1 hz1; have hB1 : Below wr.heap.size wr w1 := btr (bal (bal (Below.refl _ wr) _) _) hb1; have q0 := (hB1.cell (p := ⟨b', off' + (m - 1) * 9, none⟩) hbl').trans p0; have q1 := (hB1.cell (p := ⟨b', off' + (m - 1) * 9 + 1, none⟩) hbl').trans p1; have q2 := (hB1.cell (p := ⟨b', off' + (m - 1) * 9 + 2, none⟩) hbl').trans p2; have q3 := (hB1.cell (p := ⟨b', off' + (m - 1) * 9 + 3, none⟩) hbl').trans p3; have q4 := (hB1.cell (p := ⟨b', off' + (m - 1) * 9 + 4, none⟩) hbl').trans p4; have q5 := (hB1.cell (p := ⟨b', off' + (m - 1) * 9 + 5, none⟩) hbl').trans p5; have q6 := (hB1.cell (p := ⟨b', off' + (m - 1) * 9 + 6, none⟩) hbl').trans p6; have q7 := (hB1.cell (p := ⟨b', off' + (m - 1) * 9 + 7, none⟩) hbl').trans p7; have q8 := (hB1.cell (p := ⟨b', off' + (m - 1) * 9 + 8, none⟩) hbl').trans p8) | (at_mapUpdate; obtain ⟨D, hD1, hD2, hD3⟩ := (hseen.below (btr (bal (bal (Below.refl _ wr) _) _) hb1)); refine wpList_mapUpdate_own _ rfl (.tmp 74) (.tmp 76) (.const (.bool true)) 76 rfl 33 4 nums_keyed Try.underlying76 (plainElem Try.prog 4) (w.heap.size + 1) _ D rfl (hD1.alloc _) hsl.out _ _ (.int .u64 nu) rfl rfl (keyOf_int_mk Try.underlying33 HW2.out) (.lit (.bool true)) [] (plainElem_bool Try.underlying4 true) ?_; intro w2 hown2 hgrow2))
                      go_wp2
                      go_roundw
                      case rel =>
                        refine ⟨m + 1, by omega, by go_num, Lib.hid (fun j hj f hf => ?_), by rw [seenS_step L n m _ HG.out]; exact SeenM.put HW2.out hD2 hD3 hown2, (bal (btr (bal (bal hb _) _) hb1) _).grown hgrow2 (Below.size (bal (btr (bal (bal hb _) _) hb1) _)) (fun k hk => by cases hk; rw [HS.out]; exact Nat.le_refl _)⟩
                        by_cases hjm : j = m
                        · subst hjm; rw [HG.out] at hf; cases hf; rw [HOK.out]; simp only [B1.out, H2.out, B3.out, BQ.out, Bool.not_false, Bool.and_true]
                        · exact hok2.out j (by omega) f hf
                      case measure => simp [intOf]; omega
                  · have hn1 : ((n : Int) == 0) = false := by simp; omega
                    have hn2 : 1 ≤ (n : Int) := by omega
                    have HB : Hid (behindS n ⟨plv, pnu, psz, psu, pss, psk, plu, pls, plk⟩ ⟨lv, nu, sz, su, ss, sk, lu, ls, lk⟩ = ltB plu su) := by show behindS n _ _ = _; unfold behindS; rw [if_neg hn0]
                    clear hn0
                    cases hq : Op.bytesLess plu.toList su.toList
                    · have BQ : Hid (behindS n ⟨plv, pnu, psz, psu, pss, psk, plu, pls, plk⟩ ⟨lv, nu, sz, su, ss, sk, lu, ls, lk⟩ = false) := by show behindS n _ _ = _; rw [HB.out]; exact hq
                      go_wp2_with (go_at_call 31; refine (edit_one ⟨lv, nu, sz, su, ss, sk, lu, ls, lk⟩ _ _ (at_one' _ encF 9 _ encF_len ⟨lv, nu, sz, su, ss, sk, lu, ls, lk⟩ _ rfl (by simp))).mono ?_; rintro e w1 ⟨rfl, hb1⟩; obtain ⟨hc1, hf1⟩ := bcell hb1; have hz1 : wr.heap.size < w1.heap.size := (by have := hb1.size; simp at this; omega); have hz2 : b < w1.heap.size := (by omega); have hz4 : b' < w1.heap.size := (by omega); have hz3 := hlt3 w1 hz1; have hB1 : Below wr.heap.size wr w1 := btr (bal (bal (Below.refl _ wr) _) _) hb1; have q0 := (hB1.cell (p := ⟨b', off' + (m - 1) * 9, none⟩) hbl').trans p0; have q1 := (hB1.cell (p := ⟨b', off' + (m - 1) * 9 + 1, none⟩) hbl').trans p1; have q2 := (hB1.cell (p := ⟨b', off' + (m - 1) * 9 + 2, none⟩) hbl').trans p2; have q3 := (hB1.cell (p := ⟨b', off' + (m - 1) * 9 + 3, none⟩) hbl').trans p3; have q4 := (hB1.cell (p := ⟨b', off' + (m - 1) * 9 + 4, none⟩) hbl').trans p4; have q5 := (hB1.cell (p := ⟨b', off' + (m - 1) * 9 + 5, none⟩) hbl').trans p5; have q6 := (hB1.cell (p := ⟨b', off' + (m - 1) * 9 + 6, none⟩) hbl').trans p6; have q7 := (hB1.cell (p := ⟨b', off' + (m - 1) * 9 + 7, none⟩) hbl').trans p7; have q8 := (hB1.cell (p := ⟨b', off' + (m - 1) * 9 + 8, none⟩) hbl').trans p8)
                      go_ret
                      exact ⟨ret_int (by rw [checkS_bad hlt HG.out (by rw [HOK.out]; simp only [BQ.out, Bool.and_false])]), btr hb0 (by repeat (first | exact Below.refl _ _ | (with_reducible assumption) | refine bal ?_ _ | refine bset ?_ (by simp) _ | refine bdr ?_ | refine btr ?_ (by with_reducible assumption)))⟩
                    · have BQ : Hid (behindS n ⟨plv, pnu, psz, psu, pss, psk, plu, pls, plk⟩ ⟨lv, nu, sz, su, ss, sk, lu, ls, lk⟩ = true) := by show behindS n _ _ = _; rw [HB.out]; exact hq
                      go_wp2_with (first | (go_at_call 31; refine (edit_one ⟨lv, nu, sz, su, ss, sk, lu, ls, lk⟩ _ _ (at_one' _ encF 9 _ encF_len ⟨lv, nu, sz, su, ss, sk, lu, ls, lk⟩ _ rfl (by simp))).mono ?_; rintro e w1 ⟨rfl, hb1⟩; obtain ⟨hc1, hf1⟩ := bcell hb1; have hz1 : wr.heap.size < w1.heap.size := (by have := hb1.size; simp at this; omega); have hz2 : b < w1.heap.size := (by omega); have hz4 : b' < w1.heap.size := (by omega); have hz3 := hlt3 w1 hz1; have hB1 : Below wr.heap.size wr w1 := btr (bal (bal (Below.refl _ wr) _) _) hb1; have q0 := (hB1.cell (p := ⟨b', off' + (m - 1) * 9, none⟩) hbl').trans p0; have q1 := (hB1.cell (p := ⟨b', off' + (m - 1) * 9 + 1, none⟩) hbl').trans p1; have q2 := (hB1.cell (p := ⟨b', off' + (m - 1) * 9 + 2, none⟩) hbl').trans p2; have q3 := (hB1.cell (p := ⟨b', off' + (m - 1) * 9 + 3, none⟩) hbl').trans p3; have q4 := (hB1.cell (p := ⟨b', off' + (m - 1) * 9 + 4, none⟩) hbl').trans p4; have q5 := (hB1.cell (p := ⟨b', off' + (m - 1) * 9 + 5, none⟩) hbl').trans p5; have q6 := (hB1.cell (p := ⟨b', off' + (m - 1) * 9 + 6, none⟩) hbl').trans p6; have q7 := (hB1.cell (p := ⟨b', off' + (m - 1) * 9 + 7, none⟩) hbl').trans p7; have q8 := (hB1.cell (p := ⟨b', off' + (m - 1) * 9 + 8, none⟩) hbl').trans p8) | (at_mapUpdate; obtain ⟨D, hD1, hD2, hD3⟩ := (hseen.below (btr (bal (bal (Below.refl _ wr) _) _) hb1)); refine wpList_mapUpdate_own _ rfl (.tmp 74) (.tmp 76) (.const (.bool true)) 76 rfl 33 4 nums_keyed Try.underlying76 (plainElem Try.prog 4) (w.heap.size + 1) _ D rfl (hD1.alloc _) hsl.out _ _ (.int .u64 nu) rfl rfl (keyOf_int_mk Try.underlying33 HW2.out) (.lit (.bool true)) [] (plainElem_bool Try.underlying4 true) ?_; intro w2 hown2 hgrow2))
                      go_wp2
                      go_roundw
                      case rel =>
                        refine ⟨m + 1, by omega, by go_num, Lib.hid (fun j hj f hf => ?_), by rw [seenS_step L n m _ HG.out]; exact SeenM.put HW2.out hD2 hD3 hown2, (bal (btr (bal (bal hb _) _) hb1) _).grown hgrow2 (Below.size (bal (btr (bal (bal hb _) _) hb1) _)) (fun k hk => by cases hk; rw [HS.out]; exact Nat.le_refl _)⟩
                        by_cases hjm : j = m
                        · subst hjm; rw [HG.out] at hf; cases hf; rw [HOK.out]; simp only [B1.out, H2.out, B3.out, BQ.out, Bool.not_false, Bool.and_true]
                        · exact hok2.out j (by omega) f hf
                      case measure => simp [intOf]; omega
                · have n3 : (fileS ⟨lv, nu, sz, su, ss, sk, lu, ls, lk⟩ != 0) = true := by simp [h3]
                  have B3 : Hid ((fileS ⟨lv, nu, sz, su, ss, sk, lu, ls, lk⟩ == 0) = false) := by show (fileS ⟨lv, nu, sz, su, ss, sk, lu, ls, lk⟩ == 0) = false; simp [h3]
                  clear h3
                  go_wp2_with (go_at_call 31; refine (edit_one ⟨lv, nu, sz, su, ss, sk, lu, ls, lk⟩ _ _ (at_one' _ encF 9 _ encF_len ⟨lv, nu, sz, su, ss, sk, lu, ls, lk⟩ _ rfl (by simp))).mono ?_; rintro e w1 ⟨rfl, hb1⟩; obtain ⟨hc1, hf1⟩ := bcell hb1; have hz1 : wr.heap.size < w1.heap.size := (by have := hb1.size; simp at this; omega); have hz2 : b < w1.heap.size := (by omega); have hz4 : b' < w1.heap.size := (by omega); have hz3 := hlt3 w1 hz1; have hB1 : Below wr.heap.size wr w1 := btr (bal (bal (Below.refl _ wr) _) _) hb1; have q0 := (hB1.cell (p := ⟨b', off' + (m - 1) * 9, none⟩) hbl').trans p0; have q1 := (hB1.cell (p := ⟨b', off' + (m - 1) * 9 + 1, none⟩) hbl').trans p1; have q2 := (hB1.cell (p := ⟨b', off' + (m - 1) * 9 + 2, none⟩) hbl').trans p2; have q3 := (hB1.cell (p := ⟨b', off' + (m - 1) * 9 + 3, none⟩) hbl').trans p3; have q4 := (hB1.cell (p := ⟨b', off' + (m - 1) * 9 + 4, none⟩) hbl').trans p4; have q5 := (hB1.cell (p := ⟨b', off' + (m - 1) * 9 + 5, none⟩) hbl').trans p5; have q6 := (hB1.cell (p := ⟨b', off' + (m - 1) * 9 + 6, none⟩) hbl').trans p6; have q7 := (hB1.cell (p := ⟨b', off' + (m - 1) * 9 + 7, none⟩) hbl').trans p7; have q8 := (hB1.cell (p := ⟨b', off' + (m - 1) * 9 + 8, none⟩) hbl').trans p8)
                  go_ret
                  exact ⟨ret_int (by rw [checkS_bad hlt HG.out (by rw [HOK.out]; simp only [B3.out, Bool.and_false, Bool.false_and])]), btr hb0 (by repeat (first | exact Below.refl _ _ | (with_reducible assumption) | refine bal ?_ _ | refine bset ?_ (by simp) _ | refine bdr ?_ | refine btr ?_ (by with_reducible assumption)))⟩
              · rw [h2] at hlook
                have H2 := Lib.hid h2
                clear h2
                go_wp2
                go_ret
                exact ⟨ret_int (by rw [checkS_bad hlt HG.out (by rw [HOK.out]; simp only [H2.out, Bool.not_true, Bool.and_false, Bool.false_and])]), btr hb0 (by repeat (first | exact Below.refl _ _ | (with_reducible assumption) | refine bal ?_ _ | refine bset ?_ (by simp) _ | refine bdr ?_ | refine btr ?_ (by with_reducible assumption)))⟩
            · have B1 : Hid ((lv == (n : Int)) = false) := by show (lv == (n : Int)) = false; simpa using h1
              go_wp2
              go_ret
              exact ⟨ret_int (by rw [checkS_bad hlt HG.out (by rw [HOK.out]; simp only [B1.out, Bool.false_and])]), btr hb0 (by repeat (first | exact Below.refl _ _ | (with_reducible assumption) | refine bal ?_ _ | refine bset ?_ (by simp) _ | refine bdr ?_ | refine btr ?_ (by with_reducible assumption)))⟩
        · obtain rfl : m = (L n).length := by omega
          go_wp2
          go_roundw
          case rel =>
            refine ⟨n + 1, by omega, by go_num, Lib.hid (fun k hk i f hf => ?_), by rw [seenS_next]; exact hseen, hb⟩
            by_cases hkn : k = n
            · subst hkn
              exact hok2.out i (List.getElem?_eq_some_iff.1 hf).1 f hf
            · exact hok.out k (by omega) i f hf
          case measure => simp [intOf]; omega
    · obtain rfl : n = 4 := by omega
      go_wp2
      go_ret
      exact ⟨ret_int (by rw [checkS_ok hok.out]), btr hb0 hb⟩

end Go.Proofs.Ytjeanhaadbkncaa
