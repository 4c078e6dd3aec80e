/- The walk of the reference's check of an edit. -/
import Derived.Test.YtjeanhaadbkncaaEdit
namespace Go.Proofs.Ytjeanhaadbkncaa
open Go.RowKit

set_option maxRecDepth 100000 in
set_option maxHeartbeats 1000000 in
theorem refEdit_any (log nx la : Int) (aod : Option Addr) (cd : Nat) (ds : List Gn) (aof : Option Addr) (cf : Nat) (fs : List Fl) (w : World) (hd : At w encG 2 aod cd ds) (hf : At w encF 9 aof cf fs) :
    Calls Try.prog 36 #[.agg #[.int .u64 log, .int .u64 nx, .int .u64 la, .slice aod ds.length cd, .slice aof fs.length cf]] w fun e w' => e = .returned (.int .i64 (editS log nx la ds fs)) ∧ Below w.heap.size w w' := by
  by_cases h1 : 20000 < (ds.length : Int)
  · go_enter Try.func36, Try.ntmps36
    go_wp2
    go_ret
    exact ⟨ret_int (by unfold editS; rw [if_pos (by omega)]), (by repeat (first | exact Below.refl _ _ | (with_reducible assumption) | refine bal ?_ _ | refine bset ?_ (by simp) _ | refine bdr ?_ | refine bdrn ?_ _ | refine btr ?_ (by with_reducible assumption)))⟩
  by_cases h2 : 100 < (fs.length : Int)
  · go_enter Try.func36, Try.ntmps36
    go_wp2
    go_ret
    exact ⟨ret_int (by unfold editS; rw [if_pos (by omega)]), (by repeat (first | exact Below.refl _ _ | (with_reducible assumption) | refine bal ?_ _ | refine bset ?_ (by simp) _ | refine bdr ?_ | refine bdrn ?_ _ | refine btr ?_ (by with_reducible assumption)))⟩
  by_cases h3 : 1099511627776 < log
  · go_enter Try.func36, Try.ntmps36
    go_wp2
    go_ret
    exact ⟨ret_int (by unfold editS; rw [if_neg (by omega), if_pos (by omega)]), (by repeat (first | exact Below.refl _ _ | (with_reducible assumption) | refine bal ?_ _ | refine bset ?_ (by simp) _ | refine bdr ?_ | refine bdrn ?_ _ | refine btr ?_ (by with_reducible assumption)))⟩
  by_cases h4 : 1099511627776 < nx
  · go_enter Try.func36, Try.ntmps36
    go_wp2
    go_ret
    exact ⟨ret_int (by unfold editS; rw [if_neg (by omega), if_pos (by omega)]), (by repeat (first | exact Below.refl _ _ | (with_reducible assumption) | refine bal ?_ _ | refine bset ?_ (by simp) _ | refine bdr ?_ | refine bdrn ?_ _ | refine btr ?_ (by with_reducible assumption)))⟩
  by_cases h5 : 72057594037927935 < la
  · go_enter Try.func36, Try.ntmps36
    go_wp2
    go_ret
    exact ⟨ret_int (by unfold editS; rw [if_neg (by omega), if_neg (by omega), if_pos (by omega)]), (by repeat (first | exact Below.refl _ _ | (with_reducible assumption) | refine bal ?_ _ | refine bset ?_ (by simp) _ | refine bdr ?_ | refine bdrn ?_ _ | refine btr ?_ (by with_reducible assumption)))⟩
  have HE : Hid (editS log nx la ds fs = if firstErr (ds.map placeG) ≠ 0 then firstErr (ds.map placeG) else firstErr (fs.map fileS)) := by
    show editS log nx la ds fs = _
    unfold editS
    rw [if_neg (by omega), if_neg (by omega), if_neg (by omega)]
  obtain ⟨W0, hW0⟩ : ∃ W0, W0 = w.alloc (.cells #[.int .u64 log, .int .u64 nx, .int .u64 la, .slice aod ds.length cd, .slice aof fs.length cf] 36) := ⟨_, rfl⟩
  have hb0 : Below w.heap.size w W0 := by rw [hW0]; exact bal (Below.refl _ _) _
  have HD := Lib.hid (hd.below hb0)
  have HF := Lib.hid (hf.below hb0)
  have c4 : W0.cell? ⟨w.heap.size, 4, none⟩ = some (.slice aof fs.length cf) := by rw [hW0]; go_simp
  have C4 := Lib.hid c4
  have c3 : W0.cell? ⟨w.heap.size, 3, none⟩ = some (.slice aod ds.length cd) := by rw [hW0]; go_simp
  have C3 := Lib.hid c3
  have HW := Lib.hid hW0
  have hlt0 : w.heap.size < W0.heap.size := by rw [hW0]; simp
  clear hd hf hW0 c4 c3
  go_enter Try.func36, Try.ntmps36
  go_wp2_with fail
  go_loopw [3] (fun i wr => ∃ n : Nat, n ≤ ds.length ∧ i = .int .i64 n ∧ Hid (∀ (j : Nat), j < n → ∀ y, ds[j]? = some y → placeG y = 0) ∧ Below W0.heap.size W0 wr) (fun i _ => ds.length - (intOf i).toNat)
  case atStart => exact ⟨0, Nat.zero_le _, rfl, Lib.hid (fun j hj => by omega), by rw [HW.out]; exact Below.refl _ _⟩
  case round =>
    obtain ⟨n, hn, rfl, hno, hb⟩ := hrel
    have hc3 := (hb.cell (p := ⟨w.heap.size, 3, none⟩) hlt0).trans C3.out
    by_cases hlt : n < ds.length
    · obtain ⟨g, hg⟩ : ∃ g, ds[n]? = some g := ⟨_, List.getElem?_eq_getElem hlt⟩
      obtain ⟨b, off, hbl, hix, hcs⟩ := idx_at (P := Try.prog) (HD.out.below hb) 34 52 Try.underlying34 Try.sizeOf52 hg
      obtain ⟨e0, e1⟩ := gone_cells hcs
      have HG := Lib.hid hg
      have hp : placeS g.lv g.nu = placeG g := rfl
      clear hg hcs hp
      by_cases hh : placeS g.lv g.nu = 0
      · have n1 : (placeS g.lv g.nu != 0) = false := by simp [hh]
        have HH := Lib.hid hh
        clear hh
        go_wp2
        go_quiet ((go_at_call 57; exact Calls.quiet_of_same ((refPlace_any _ _ _).mono fun _ _ h => ⟨h.1, h.2.symm⟩)))
        go_wp2
        go_roundw
        case rel =>
          refine ⟨n + 1, by omega, by go_num, Lib.hid (fun j hj y hy => ?_), (by repeat (first | exact Below.refl _ _ | (with_reducible assumption) | refine bal ?_ _ | refine bset ?_ (by simp) _ | refine bdr ?_ | refine bdrn ?_ _ | refine btr ?_ (by with_reducible assumption)))⟩
          by_cases hjn : j = n
          · subst hjn; rw [HG.out] at hy; cases hy; exact HH.out
          · exact hno.out j (by omega) y hy
        case measure => simp [intOf]; omega
      · have n1 : (placeS g.lv g.nu != 0) = true := by simp [hh]
        have HH := Lib.hid hh
        clear hh
        go_wp2
        go_quiet ((go_at_call 57; exact Calls.quiet_of_same ((refPlace_any _ _ _).mono fun _ _ h => ⟨h.1, h.2.symm⟩)))
        go_wp2
        go_ret
        have hfe := firstErr_map (f := placeG) HG.out HH.out hno.out
        exact ⟨ret_int (by rw [HE.out, hfe, if_pos (show placeG g ≠ 0 from HH.out)]; rfl), btr hb0 (bdrn hb _)⟩
    · obtain rfl : n = ds.length := by omega
      have HE2 : Hid (editS log nx la ds fs = firstErr (fs.map fileS)) := by
        show editS log nx la ds fs = _
        rw [HE.out, firstErr_map_zero hno.out, if_neg (by simp)]
      have hc4 := (hb.cell (p := ⟨w.heap.size, 4, none⟩) hlt0).trans C4.out
      go_wp2_with fail
      go_loopw [5] (fun i wr => ∃ n : Nat, n ≤ fs.length ∧ i = .int .i64 n ∧ Hid (∀ (j : Nat), j < n → ∀ y, fs[j]? = some y → fileS y = 0) ∧ Below W0.heap.size W0 wr) (fun i _ => fs.length - (intOf i).toNat)
      case atStart => exact ⟨0, Nat.zero_le _, rfl, Lib.hid (fun j hj => by omega), hb⟩
      case round =>
        clear hc4 hc3 hb hlt
        obtain ⟨n, hn, rfl, hno2, hb⟩ := hrel
        have hc4 := (hb.cell (p := ⟨w.heap.size, 4, none⟩) hlt0).trans C4.out
        by_cases hlt : n < fs.length
        · obtain ⟨f, hf⟩ : ∃ f, fs[n]? = some f := ⟨_, List.getElem?_eq_getElem hlt⟩
          obtain ⟨b, off, hbl, hix, hcs⟩ := idx_at (P := Try.prog) (HF.out.below hb) 23 50 Try.underlying23 Try.sizeOf50 hf
          have HG := Lib.hid hf
          clear hf
          obtain ⟨lv, nu, sz, su, ss, sk, lu, ls, lk⟩ := f
          obtain ⟨e0, e1, e2, e3, e4, e5, e6, e7, e8⟩ := file_cells hcs
          dsimp only at e0 e1 e2 e3 e4 e5 e6 e7 e8
          clear hcs
          by_cases hh : fileS ⟨lv, nu, sz, su, ss, sk, lu, ls, lk⟩ = 0
          · have n1 : (fileS ⟨lv, nu, sz, su, ss, sk, lu, ls, lk⟩ != 0) = false := by simp [hh]
            have HH := Lib.hid hh
            clear hh
            go_wp2_with (go_at_call 40; refine (refFile_any _ _ _ _ _ _ _ _ _ _).mono ?_; rintro e w1 ⟨rfl, hb1⟩)
            go_roundw
            case rel =>
              refine ⟨n + 1, by omega, by go_num, Lib.hid (fun j hj y hy => ?_), (by repeat (first | exact Below.refl _ _ | (with_reducible assumption) | refine bal ?_ _ | refine bset ?_ (by simp) _ | refine bdr ?_ | refine bdrn ?_ _ | refine btr ?_ (by with_reducible assumption)))⟩
              by_cases hjn : j = n
              · subst hjn; rw [HG.out] at hy; cases hy; exact HH.out
              · exact hno2.out j (by omega) y hy
            case measure => simp [intOf]; omega
          · have n1 : (fileS ⟨lv, nu, sz, su, ss, sk, lu, ls, lk⟩ != 0) = true := by simp [hh]
            have HH := Lib.hid hh
            clear hh
            go_wp2_with (go_at_call 40; refine (refFile_any _ _ _ _ _ _ _ _ _ _).mono ?_; rintro e w1 ⟨rfl, hb1⟩)
            go_ret
            exact ⟨ret_int (by rw [HE2.out, firstErr_map HG.out HH.out hno2.out]), btr hb0 (btr hb hb1)⟩
        · obtain rfl : n = fs.length := by omega
          go_wp2
          go_ret
          exact ⟨ret_int (by rw [HE2.out, firstErr_map_zero hno2.out]), btr hb0 hb⟩

end Go.Proofs.Ytjeanhaadbkncaa
