/- The walk of staddleref14.Check. -/
import Derived.Test.YtjeanhaadbkncaaSeen
import Derived.Deep.RegionHeld3
import Derived.IntWalk
import Derived.Test.YtjeanhaadbkncaaNum
namespace Go.Proofs.Ytjeanhaadbkncaa
open Go.RowKit

theorem bkeep {w w' : World} {a : Addr} {v : Value} (hb : Below w.heap.size w w') (h : w.cell? a = some v) : w'.cell? a = some v := (hb.cell (World.block_lt_of_cell? w a h)).trans h
theorem Var.grown {w w' : World} {b : Nat} {cs : Array Value} {T : TypeId} {row : Option Nat} (h : Var w b cs T) (hg : w.grownBy w' row) (hne : some b ≠ row) : Var w' b cs T := (hg.block b h.lt hne).trans h
theorem contains_false {l : List Int} {x : Int} (h : ∀ j : Nat, j < l.length → ∀ y, l[j]? = some y → (y == x) = false) : l.contains x = false := by
  cases hc : l.contains x
  · rfl
  · obtain ⟨j, hj⟩ := List.getElem?_of_mem (show x ∈ l by simpa using hc)
    have := h j (List.getElem?_eq_some_iff.1 hj).1 x hj
    simp at this
theorem contains_true {l : List Int} {x y : Int} {j : Nat} (h : l[j]? = some y) (he : (y == x) = true) : l.contains x = true := by
  have := List.mem_of_getElem? h
  simp at he
  subst he
  simpa using this

set_option maxRecDepth 100000 in
set_option maxHeartbeats 8000000 in
theorem refCheck_any (ao : Nat → Option Addr) (L : Nat → List Fl) (c : Nat → Nat) (w : World) (hv : ∀ i, i < 4 → At w encF 9 (ao i) (c i) (L i)) (hsz : ∀ i, i < 4 → (L i).length ≤ 1000000) :
    Calls Try.prog 16 #[.agg #[.slice (ao 0) (L 0).length (c 0), .slice (ao 1) (L 1).length (c 1), .slice (ao 2) (L 2).length (c 2), .slice (ao 3) (L 3).length (c 3)]] w fun e w' => e = .returned (.int .i64 (checkS L)) ∧ Below w.heap.size w w' := by
  obtain ⟨W0, hW0⟩ : ∃ W0, W0 = w.alloc (.cells #[.slice (ao 0) (L 0).length (c 0), .slice (ao 1) (L 1).length (c 1), .slice (ao 2) (L 2).length (c 2), .slice (ao 3) (L 3).length (c 3)] 26) := ⟨_, rfl⟩
  have hcell : ∀ k, k < 4 → W0.cell? ⟨w.heap.size, k, none⟩ = some (.slice (ao k) (L k).length (c k)) := by
    intro k hk
    rw [hW0]
    rcases (show k = 0 ∨ k = 1 ∨ k = 2 ∨ k = 3 by omega) with rfl | rfl | rfl | rfl <;> go_simp
  have hb0 : Below w.heap.size w W0 := by rw [hW0]; exact bal (Below.refl _ _) _
  have hlt0 : w.heap.size < W0.heap.size := by rw [hW0]; simp
  have HAT := Lib.hid (fun i hi => (hv i hi).below hb0)
  have HC := Lib.hid hcell
  have HW := Lib.hid hW0
  clear hv hW0 hcell
  go_enter Try.func16, Try.ntmps16
  go_wp2_with fail
  go_loopw [4, 3] (fun i v wr => ∃ n : Nat, n ≤ 4 ∧ i = .int .i64 n ∧ Hid (∀ k, k < n → ∀ (i : Nat) (f : Fl), (L k)[i]? = some f → okAt L k i f = true) ∧ wr.ownsRow W0.heap.size 33 1 v (seenS L n 0).length ((seenS L n 0).flatMap encN) ∧ Below W0.heap.size W0 wr) (fun i _ _ => 4 - (intOf i).toNat)
  case atStart => exact ⟨0, Nat.zero_le _, rfl, Lib.hid (fun j hj => by omega), World.ownsRow_nil _ _ _ _, by rw [HW.out]; exact Below.refl _ _⟩
  case round =>
    obtain ⟨n, hn, rfl, hok, hown, hb⟩ := hrel
    by_cases hlt : n < 4
    · have hlen := hsz n hlt
      have hd4 : decide ((n : Int) < 4) = true := by simp; omega
      go_wp2_with fail
      go_loopw [5, 3] (fun i v wm => ∃ m : Nat, m ≤ (L n).length ∧ i = .int .i64 m ∧ Hid (∀ (j : Nat), j < m → ∀ f, (L n)[j]? = some f → okAt L n j f = true) ∧ wm.ownsRow W0.heap.size 33 1 v (seenS L n m).length ((seenS L n m).flatMap encN) ∧ Below W0.heap.size W0 wm) (fun i _ _ => (L n).length - (intOf i).toNat)
      case atStart => exact ⟨0, Nat.zero_le _, rfl, Lib.hid (fun j hj => by omega), hown, hb⟩
      case round =>
        clear hb hown
        obtain ⟨m, hm, rfl, hok2, hown, hb⟩ := hrel
        obtain ⟨wm, hwm⟩ : ∃ wm, wm = wr := ⟨_, rfl⟩
        subst hwm
        have hbox := (hb.cell (p := ⟨w.heap.size, n, none⟩) hlt0).trans (HC.out n hlt)
        have hltr : w.heap.size < wm.heap.size := Nat.lt_of_lt_of_le hlt0 hb.size
        by_cases hltm : m < (L n).length
        · obtain ⟨f, hf⟩ : ∃ f, (L n)[m]? = some f := ⟨_, List.getElem?_eq_getElem hltm⟩
          obtain ⟨b, off, hbl, hix2, hcs⟩ := idx_at (P := Try.prog) ((HAT.out n hlt).below hb) 23 50 Try.underlying23 Try.sizeOf50 hf
          have HG := Lib.hid hf
          have HOK : Hid (okAt L n m f = (f.lv == (n : Int) && !((seenS L n m).contains f.nu) && fileS f == 0 && (m == 0 || match (L n)[m - 1]? with | some p => behindS n p f | none => true))) := rfl
          clear hf
          obtain ⟨lv, nu, sz, su, ss, sk, lu, ls, lk⟩ := f
          obtain ⟨e0, e1, e2, e3, e4, e5, e6, e7, e8⟩ := file_cells hcs
          dsimp only at e0 e1 e2 e3 e4 e5 e6 e7 e8 HOK
          clear hcs
          have HSL := Lib.hid (seenS_len L n m hlt hsz)
          have hsl : (seenS L n m).length ≤ 5000000 := HSL.out
          obtain ⟨ao2, c2, rfl, hat2, hbb⟩ := at_of_own' encN_len hown rfl
          have HGB : Hid (∀ k, (Value.slice ao2 (seenS L n m).length c2).ownBlock = some k → k < wm.heap.size) := Lib.hid fun k h => (hown.lt k h).2
          have HAT2 := Lib.hid hat2
          clear hat2 hbb
          by_cases h3 : fileS ⟨lv, nu, sz, su, ss, sk, lu, ls, lk⟩ = 0
          · have n3 : (fileS ⟨lv, nu, sz, su, ss, sk, lu, ls, lk⟩ != 0) = false := by simp [h3]
            have B3 : Hid ((fileS ⟨lv, nu, sz, su, ss, sk, lu, ls, lk⟩ == 0) = true) := by show (fileS ⟨lv, nu, sz, su, ss, sk, lu, ls, lk⟩ == 0) = true; simp [h3]
            clear h3
            cases h1 : (lv != (n : Int))
            · have B1 : Hid ((lv == (n : Int)) = true) := by show (lv == (n : Int)) = true; simpa using h1
              go_wp2_with (go_at_call 40; refine (refFile_any _ _ _ _ _ _ _ _ _ _).mono ?_; rintro e w1 ⟨rfl, hb1⟩; obtain ⟨hc1, hf1⟩ := bcell hb1; have hz1 : wm.heap.size < w1.heap.size := (by have := hb1.size; simp at this; omega))
              have hvar : Hid (Var w1 wm.heap.size #[.int .i64 lv, .int .u64 nu, .int .i64 sz, .string su, .int .u64 ss, .int .i64 sk, .string lu, .int .u64 ls, .int .i64 lk] 50) := Lib.hid ((Var.new wm _ _).below hb1)
              have hb1' : Below W0.heap.size W0 w1 := btr (bal hb _) hb1
              have hbm1 : Below wm.heap.size wm w1 := btr (bal (Below.refl _ _) _) hb1
              clear hb1 hc1 hf1 e0 e1 e2 e3 e4 e5 e6 e7 e8
              go_loopw [8] (fun i w3 => ∃ j : Nat, j ≤ (seenS L n m).length ∧ i = .int .i64 j ∧ Hid (∀ (k : Nat), k < j → ∀ y, (seenS L n m)[k]? = some y → (y == nu) = false) ∧ Below w1.heap.size w1 w3) (fun i _ => (seenS L n m).length - (intOf i).toNat)
              case atStart => exact ⟨0, Nat.zero_le _, rfl, Lib.hid (fun j hj => by omega), Below.refl _ _⟩
              case round =>
                obtain ⟨j, hj, rfl, hno, hb3⟩ := hrel
                obtain ⟨w3, hw3⟩ : ∃ w3, w3 = wr := ⟨_, rfl⟩
                subst hw3
                have hz3 : wm.heap.size < w3.heap.size := Nat.lt_of_lt_of_le hz1 hb3.size
                have hv3 := hvar.out.below hb3
                have e1 : w3.cell? ⟨wm.heap.size, 1, none⟩ = some (.int .u64 nu) := hv3.cell 1
                by_cases hltj : j < (seenS L n m).length
                · obtain ⟨y, hy⟩ : ∃ y, (seenS L n m)[j]? = some y := ⟨_, List.getElem?_eq_getElem hltj⟩
                  obtain ⟨by', offy, hbly, hixy, hcsy⟩ := idx_at (P := Try.prog) ((HAT2.out.below hbm1).below hb3) 55 33 Try.underlying55 Try.sizeOf33 hy
                  have ey := hcsy 0 _ rfl
                  simp only [Nat.mul_one, Nat.add_zero] at ey hixy
                  have HY := Lib.hid hy
                  clear hy hcsy hv3
                  cases hq : (y == nu)
                  · have HQ := Lib.hid hq
                    go_wp2
                    go_quiet (fail)
                    go_wp2
                    go_roundw
                    case rel =>
                      refine ⟨j + 1, by omega, by go_num, Lib.hid (fun k hk z hz => ?_), bdrn hb3 _⟩
                      by_cases hkj : k = j
                      · subst hkj; rw [HY.out] at hz; cases hz; exact HQ.out
                      · exact hno.out k (by omega) z hz
                    case measure => simp [intOf]; omega
                  · have HQ := Lib.hid hq
                    go_wp2
                    go_quiet (fail)
                    go_wp2
                    go_ret
                    exact ⟨ret_int (by rw [checkS_bad hlt HG.out (by rw [HOK.out]; simp only [contains_true HY.out HQ.out, Bool.not_true, Bool.and_false, Bool.false_and])]), btr hb0 (bdrn (btr hb1' hb3) _)⟩
                · obtain rfl : j = (seenS L n m).length := by omega
                  have B2 : Hid ((seenS L n m).contains nu = false) := Lib.hid (contains_false hno.out)
                  have hown3 := own_below (own_below hown hbm1) hb3
                  have hb3' := btr hb1' hb3
                  have hbm3 := btr hbm1 hb3
                  have hne : ∀ row, row = (Value.slice ao2 (seenS L n m).length c2).ownBlock → some wm.heap.size ≠ row := fun row hr e => Nat.lt_irrefl _ (HGB.out wm.heap.size (by rw [← hr, ← e]))
                  by_cases hm0 : m = 0
                  · have hm1 : ((m : Int) == 0) = true := by simp [hm0]
                    have HM0 : Hid ((m == 0) = true) := by show (m == 0) = true; simp [hm0]
                    clear hm0
                    go_wp2_with (at_builtin; refine wpList_append_at _ rfl (.tmp 53) (.tmp 56) 55 rfl encN 1 encN_len encN_one W0.heap.size 33 _ 8 Try.underlying55 Try.infoNum rfl (by decide) _ _ rfl (hown3.alloc _) _ _ _ [nu] rfl rfl (at_one _ encN 1 _ encN_len nu _ rfl) (by simp only [List.length_cons, List.length_nil]; omega) (by simp only [List.length_cons, List.length_nil, maxLen]; omega) (Nat.le_trans hb3'.size (by simp)) ?_; intro v' w2 hown2 hgrow2)
                    have hb2 := bgr (bal hb3' _) (hown3.alloc _) hgrow2
                    go_wp2
                    go_roundw
                    case rel =>
                      refine ⟨m + 1, by omega, by go_num, Lib.hid (fun j hj f hf => ?_), by rw [seenS_step L n m _ HG.out]; exact hown2, hb2⟩
                      by_cases hjm : j = m
                      · subst hjm; rw [HG.out] at hf; cases hf; rw [HOK.out]; simp only [B1.out, B2.out, B3.out, HM0.out, Bool.not_false, Bool.and_true, Bool.true_or]
                      · exact hok2.out j (by omega) f hf
                    case measure => simp [intOf]; omega
                  · have hm1 : ((m : Int) == 0) = false := by simp; omega
                    obtain ⟨p, hp⟩ : ∃ p, (L n)[m - 1]? = some p := ⟨_, List.getElem?_eq_getElem (by omega)⟩
                    have HOK : Hid (okAt L n m ⟨lv, nu, sz, su, ss, sk, lu, ls, lk⟩ = (lv == (n : Int) && !((seenS L n m).contains nu) && fileS ⟨lv, nu, sz, su, ss, sk, lu, ls, lk⟩ == 0 && behindS n p ⟨lv, nu, sz, su, ss, sk, lu, ls, lk⟩)) := by
                      show okAt L n m _ = _
                      rw [HOK.out, hp, show (m == 0) = false by simp; omega]
                      simp only [Bool.false_or]
                    have HP := Lib.hid hp
                    have hm2 : 1 ≤ (m : Int) := by omega
                    clear hp hm0
                    go_wp2_with (at_builtin; refine wpList_append_at _ rfl (.tmp 53) (.tmp 56) 55 rfl encN 1 encN_len encN_one W0.heap.size 33 _ 8 Try.underlying55 Try.infoNum rfl (by decide) _ _ rfl (hown3.alloc _) _ _ _ [nu] rfl rfl (at_one _ encN 1 _ encN_len nu _ rfl) (by simp only [List.length_cons, List.length_nil]; omega) (by simp only [List.length_cons, List.length_nil, maxLen]; omega) (Nat.le_trans hb3'.size (by simp)) ?_; intro v' w2 hown2 hgrow2)
                    have hb2 := bgr (bal hb3' _) (hown3.alloc _) hgrow2
                    have hv2 := (hv3.alloc (.cells #[.int .u64 nu] 33)).grown hgrow2 (hne _ rfl)
                    have hbox2 := (hb2.cell (p := ⟨w.heap.size, n, none⟩) hlt0).trans (HC.out n hlt)
                    obtain ⟨b', off', hbl', hix3, hcs'⟩ := idx_at (P := Try.prog) ((HAT.out n hlt).below hb2) 23 50 Try.underlying23 Try.sizeOf50 HP.out
                    have HPP := HP
                    obtain ⟨plv, pnu, psz, psu, pss, psk, plu, pls, plk⟩ := p
                    obtain ⟨p0, p1, p2, p3, p4, p5, p6, p7, p8⟩ := file_cells hcs'
                    dsimp only at p0 p1 p2 p3 p4 p5 p6 p7 p8
                    have hix3 : ∀ (kd : IntKind) (wx : World), (Instr.indexAt 23 (.slice (ao n) (L n).length (c n)) (.int kd ((m : Int) - 1))).run Try.prog wx = .ok (.pointer (some ⟨b', off' + (m - 1) * 9, none⟩)) wx := fun kd wx => by
                      have := hix3 kd wx
                      rwa [show ((m - 1 : Nat) : Int) = (m : Int) - 1 by omega] at this
                    have hlt2 : w.heap.size < w2.heap.size := Nat.lt_of_lt_of_le hlt0 hb2.size
                    have hz2 : wm.heap.size < w2.heap.size := hv2.lt
                    clear hcs'
                    have f0 : w2.cell? ⟨wm.heap.size, 0, none⟩ = some (.int .i64 lv) := hv2.cell 0
                    have f1 : w2.cell? ⟨wm.heap.size, 1, none⟩ = some (.int .u64 nu) := hv2.cell 1
                    have f2 : w2.cell? ⟨wm.heap.size, 2, none⟩ = some (.int .i64 sz) := hv2.cell 2
                    have f3 : w2.cell? ⟨wm.heap.size, 3, none⟩ = some (.string su) := hv2.cell 3
                    have f4 : w2.cell? ⟨wm.heap.size, 4, none⟩ = some (.int .u64 ss) := hv2.cell 4
                    have f5 : w2.cell? ⟨wm.heap.size, 5, none⟩ = some (.int .i64 sk) := hv2.cell 5
                    have f6 : w2.cell? ⟨wm.heap.size, 6, none⟩ = some (.string lu) := hv2.cell 6
                    have f7 : w2.cell? ⟨wm.heap.size, 7, none⟩ = some (.int .u64 ls) := hv2.cell 7
                    have f8 : w2.cell? ⟨wm.heap.size, 8, none⟩ = some (.int .i64 lk) := hv2.cell 8
                    clear hv2 hv3
                    have hn0 : (0 : Int) ≤ (n : Int) := by omega
                    have hn4 : (n : Int) < 4 := by omega
                    go_wp2_with fail
                    have hwr : IntKind.i64.wrap ((m : Int) - 1) = (m : Int) - 1 := IntWalk.i64_in _ (by omega)
                    go_region_held3 (fun wh => wh.cell? ⟨w.heap.size, n, none⟩ = some (.slice (ao n) (L n).length (c n)) ∧ wh.cell? ⟨b', off' + (m - 1) * 9, none⟩ = some (.int .i64 plv) ∧ wh.cell? ⟨b', off' + (m - 1) * 9 + 1, none⟩ = some (.int .u64 pnu) ∧ wh.cell? ⟨b', off' + (m - 1) * 9 + 2, none⟩ = some (.int .i64 psz) ∧ wh.cell? ⟨b', off' + (m - 1) * 9 + 3, none⟩ = some (.string psu) ∧ wh.cell? ⟨b', off' + (m - 1) * 9 + 4, none⟩ = some (.int .u64 pss) ∧ wh.cell? ⟨b', off' + (m - 1) * 9 + 5, none⟩ = some (.int .i64 psk) ∧ wh.cell? ⟨b', off' + (m - 1) * 9 + 6, none⟩ = some (.string plu) ∧ wh.cell? ⟨b', off' + (m - 1) * 9 + 7, none⟩ = some (.int .u64 pls) ∧ wh.cell? ⟨b', off' + (m - 1) * 9 + 8, none⟩ = some (.int .i64 plk) ∧ wh.cell? ⟨wm.heap.size, 0, none⟩ = some (.int .i64 lv) ∧ wh.cell? ⟨wm.heap.size, 1, none⟩ = some (.int .u64 nu) ∧ wh.cell? ⟨wm.heap.size, 2, none⟩ = some (.int .i64 sz) ∧ wh.cell? ⟨wm.heap.size, 3, none⟩ = some (.string su) ∧ wh.cell? ⟨wm.heap.size, 4, none⟩ = some (.int .u64 ss) ∧ wh.cell? ⟨wm.heap.size, 5, none⟩ = some (.int .i64 sk) ∧ wh.cell? ⟨wm.heap.size, 6, none⟩ = some (.string lu) ∧ wh.cell? ⟨wm.heap.size, 7, none⟩ = some (.int .u64 ls) ∧ wh.cell? ⟨wm.heap.size, 8, none⟩ = some (.int .i64 lk) ∧ Below w2.heap.size w2 wh)
                      ((go_split_ands; (repeat' apply And.intro) <;> first | (exact bdr (Below.refl _ _)) | assumption | (refine bkeep hb9 ?_; assumption) | (refine btr ?_ hb9; assumption)))
                      (first | (go_at_call 41; refine (apart_any _ _ _ _ _ _ _ _ _ _ _ _ _ _ _ _ _ _ _).mono ?_; rintro e w9 ⟨rfl, hb9⟩))
                    rename_i hS9
                    obtain ⟨s0, -, s1, -, -, -, -, -, -, -, -, s11, -, -, -, -, -, -, -, hb9'⟩ := hS9
                    clear hwr p0 p1 p2 p3 p4 p5 p6 p7 p8 f0 f1 f2 f3 f4 f5 f6 f7 f8 hbox2 e1 hbox
                    have hz9 : wm.heap.size < w9.heap.size := Nat.lt_of_lt_of_le hz2 hb9'.size
                    have hlt9 : w.heap.size < w9.heap.size := Nat.lt_of_lt_of_le hlt2 hb9'.size
                    by_cases hn0' : n = 0
                    · have hn1 : ((n : Int) == 0) = true := by simp [hn0']
                      have hn2 : decide (0 < (n : Int)) = false := by simp [hn0']
                      have hn3 : (n : Int) ≤ 0 := by omega
                      have hn5 : ¬ (0 < n) := by omega
                      have HB : Hid (behindS n ⟨plv, pnu, psz, psu, pss, psk, plu, pls, plk⟩ ⟨lv, nu, sz, su, ss, sk, lu, ls, lk⟩ = decide (nu < pnu)) := by show behindS n _ _ = _; unfold behindS; rw [if_pos hn0']
                      clear hn0'
                      by_cases hq : pnu ≤ nu
                      · have BQ : Hid (behindS n ⟨plv, pnu, psz, psu, pss, psk, plu, pls, plk⟩ ⟨lv, nu, sz, su, ss, sk, lu, ls, lk⟩ = false) := by show behindS n _ _ = _; rw [HB.out]; simp; omega
                        have hq1 : decide (pnu ≤ nu) = true := by simp; omega
                        have hwr : IntKind.i64.wrap ((m : Int) - 1) = (m : Int) - 1 := IntWalk.i64_in _ (by omega)
                        go_wp2
                        go_quiet (fail)
                        clear hwr
                        go_wp2
                        go_ret
                        exact ⟨ret_int (by rw [checkS_bad hlt HG.out (by rw [HOK.out]; simp only [BQ.out, Bool.and_false])]), btr hb0 (bdrn (btr hb2 hb9') _)⟩
                      · have BQ : Hid (behindS n ⟨plv, pnu, psz, psu, pss, psk, plu, pls, plk⟩ ⟨lv, nu, sz, su, ss, sk, lu, ls, lk⟩ = true) := by show behindS n _ _ = _; rw [HB.out]; simp; omega
                        have hq1 : decide (pnu ≤ nu) = false := by simp; omega
                        have hwr : IntKind.i64.wrap ((m : Int) - 1) = (m : Int) - 1 := IntWalk.i64_in _ (by omega)
                        go_wp2
                        go_quiet (fail)
                        clear hwr
                        go_wp2
                        go_roundw
                        case rel =>
                          refine ⟨m + 1, by omega, by go_num, Lib.hid (fun j hj f hf => ?_), by rw [seenS_step L n m _ HG.out]; exact own_drewN (own_below hown2 hb9') _, bdrn (btr hb2 hb9') _⟩
                          by_cases hjm : j = m
                          · subst hjm; rw [HG.out] at hf; cases hf; rw [HOK.out]; simp only [B1.out, B2.out, B3.out, BQ.out, Bool.not_false, Bool.and_true]
                          · exact hok2.out j (by omega) f hf
                        case measure => simp [intOf]; omega
                    · have hn1 : ((n : Int) == 0) = false := by simp; omega
                      have hn2 : decide (0 < (n : Int)) = true := by simp; omega
                      have hn3 : 1 ≤ (n : Int) := by omega
                      have hn5 : 0 < n := by omega
                      have hn6 : ¬ (n = 0) := by omega
                      have HB : Hid (behindS n ⟨plv, pnu, psz, psu, pss, psk, plu, pls, plk⟩ ⟨lv, nu, sz, su, ss, sk, lu, ls, lk⟩ = ltB plu su) := by show behindS n _ _ = _; unfold behindS; rw [if_neg hn0']
                      clear hn0'
                      cases hq : ltB plu su
                      · have BQ : Hid (behindS n ⟨plv, pnu, psz, psu, pss, psk, plu, pls, plk⟩ ⟨lv, nu, sz, su, ss, sk, lu, ls, lk⟩ = false) := by show behindS n _ _ = _; rw [HB.out]; exact hq
                        have hwr : IntKind.i64.wrap ((m : Int) - 1) = (m : Int) - 1 := IntWalk.i64_in _ (by omega)
                        go_wp2
                        go_quiet (fail)
                        clear hwr
                        go_wp2
                        go_ret
                        exact ⟨ret_int (by rw [checkS_bad hlt HG.out (by rw [HOK.out]; simp only [BQ.out, Bool.and_false])]), btr hb0 (bdrn (btr hb2 hb9') _)⟩
                      · have BQ : Hid (behindS n ⟨plv, pnu, psz, psu, pss, psk, plu, pls, plk⟩ ⟨lv, nu, sz, su, ss, sk, lu, ls, lk⟩ = true) := by show behindS n _ _ = _; rw [HB.out]; exact hq
                        have hwr : IntKind.i64.wrap ((m : Int) - 1) = (m : Int) - 1 := IntWalk.i64_in _ (by omega)
                        go_wp2
                        go_quiet (fail)
                        clear hwr
                        go_wp2
                        go_roundw
                        case rel =>
                          refine ⟨m + 1, by omega, by go_num, Lib.hid (fun j hj f hf => ?_), by rw [seenS_step L n m _ HG.out]; exact own_drewN (own_below hown2 hb9') _, bdrn (btr hb2 hb9') _⟩
                          by_cases hjm : j = m
                          · subst hjm; rw [HG.out] at hf; cases hf; rw [HOK.out]; simp only [B1.out, B2.out, B3.out, BQ.out, Bool.not_false, Bool.and_true]
                          · exact hok2.out j (by omega) f hf
                        case measure => simp [intOf]; omega
            · have B1 : Hid ((lv == (n : Int)) = false) := by show (lv == (n : Int)) = false; simpa using h1
              go_wp2_with (go_at_call 40; refine (refFile_any _ _ _ _ _ _ _ _ _ _).mono ?_; rintro e w1 ⟨rfl, hb1⟩; obtain ⟨hc1, hf1⟩ := bcell hb1; have hz1 : wm.heap.size < w1.heap.size := (by have := hb1.size; simp at this; omega))
              go_ret
              exact ⟨ret_int (by rw [checkS_bad hlt HG.out (by rw [HOK.out]; simp only [B1.out, Bool.false_and])]), btr hb0 (by repeat (first | exact Below.refl _ _ | (with_reducible assumption) | refine bal ?_ _ | refine bset ?_ (by simp) _ | refine bdr ?_ | refine btr ?_ (by with_reducible assumption)))⟩
          · have n3 : (fileS ⟨lv, nu, sz, su, ss, sk, lu, ls, lk⟩ != 0) = true := by simp [h3]
            have B3 : Hid ((fileS ⟨lv, nu, sz, su, ss, sk, lu, ls, lk⟩ == 0) = false) := by show (fileS ⟨lv, nu, sz, su, ss, sk, lu, ls, lk⟩ == 0) = false; simp [h3]
            clear h3
            go_wp2_with (go_at_call 40; refine (refFile_any _ _ _ _ _ _ _ _ _ _).mono ?_; rintro e w1 ⟨rfl, hb1⟩; obtain ⟨hc1, hf1⟩ := bcell hb1; have hz1 : wm.heap.size < w1.heap.size := (by have := hb1.size; simp at this; omega))
            go_ret
            exact ⟨ret_int (by rw [checkS_bad hlt HG.out (by rw [HOK.out]; simp only [B3.out, Bool.and_false, Bool.false_and])]), btr hb0 (by repeat (first | exact Below.refl _ _ | (with_reducible assumption) | refine bal ?_ _ | refine bset ?_ (by simp) _ | refine bdr ?_ | refine btr ?_ (by with_reducible assumption)))⟩
        · obtain rfl : m = (L n).length := by omega
          go_wp2
          go_roundw
          case rel =>
            refine ⟨n + 1, by omega, by go_num, Lib.hid (fun k hk i f hf => ?_), by rw [seenS_next]; exact hown, hb⟩
            by_cases hkn : k = n
            · subst hkn
              exact hok2.out i (List.getElem?_eq_some_iff.1 hf).1 f hf
            · exact hok.out k (by omega) i f hf
          case measure => simp [intOf]; omega
    · obtain rfl : n = 4 := by omega
      go_wp2
      go_ret
      exact ⟨ret_int (by rw [checkS_ok hok.out]), btr hb0 hb⟩

end Go.Proofs.Ytjeanhaadbkncaa
