/- The walks of what asks one file: is it one, what users has it. -/
import Derived.Test.YtjeanhaadbkncaaLeaf
import Derived.Test.YtjeanhaadbkncaaOrder
namespace Go.Proofs.Ytjeanhaadbkncaa
open Go.RowKit

theorem less_irrefl_B (a : ByteArray) : ltB a a = false := ltB_irrefl a

set_option maxHeartbeats 1000000 in
theorem refCompare_any (u : ByteArray) (s k : Int) (u' : ByteArray) (s' k' : Int) (w : World) :
    Calls Try.prog 59 #[.agg #[.string u, .int .u64 s, .int .i64 k], .agg #[.string u', .int .u64 s', .int .i64 k']] w fun e w' => e = .returned (.int .i64 (cmpK u s k u' s' k')) ∧ Below w.heap.size w w' := by
  rcases ltB_trich u u' with h | h | h
  · have h1 : Op.bytesLess u.toList u'.toList = true := h
    have H := Lib.hid h
    clear h
    go_enter Try.func59, Try.ntmps59
    go_wp2
    go_ret
    exact ⟨ret_int (by unfold cmpK; rw [cmpB_eq, H.out]; simp), bal (bal (Below.refl _ _) _) _⟩
  · subst h
    have h1 : Op.bytesLess u.toList u.toList = false := less_irrefl _
    have h2 : (u.toList == u.toList) = true := by simp
    go_enter Try.func59, Try.ntmps59
    go_wp2
    all_goals go_ret
    all_goals exact ⟨ret_int (by unfold cmpK; rw [cmpB_eq, less_irrefl_B]; unfold cmpI; simp; (repeat' split) <;> omega), bal (bal (Below.refl _ _) _) _⟩
  · have h1 : Op.bytesLess u.toList u'.toList = false := ltB_asymm h
    have h2 : (u.toList == u'.toList) = false := by
      cases h' : eqB u u'
      · exact h'
      · rw [(eqB_iff u u').1 h', ltB_irrefl] at h
        cases h
    have H := Lib.hid h
    clear h
    go_enter Try.func59, Try.ntmps59
    go_wp2
    go_ret
    exact ⟨ret_int (by unfold cmpK; rw [cmpB_eq, ltB_asymm H.out, H.out]; simp), bal (bal (Below.refl _ _) _) _⟩

set_option maxHeartbeats 1000000 in
theorem refFile_any (lv nu sz : Int) (su : ByteArray) (ss sk : Int) (lu : ByteArray) (ls lk : Int) (w : World) :
    Calls Try.prog 40 #[.agg #[.int .i64 lv, .int .u64 nu, .int .i64 sz, .string su, .int .u64 ss, .int .i64 sk, .string lu, .int .u64 ls, .int .i64 lk]] w fun e w' =>
      e = .returned (.int .i64 (fileS ⟨lv, nu, sz, su, ss, sk, lu, ls, lk⟩)) ∧ Below w.heap.size w w' := by
  go_enter Try.func40, Try.ntmps40
  go_wp2_with (first | (go_at_call 57; refine (refPlace_any _ _ _).mono ?_; rintro e w' ⟨rfl, rfl⟩) | (go_at_call 58; refine (refKeyCheck_any _ _ _ _).mono ?_; rintro e w1 ⟨rfl, hb1⟩; obtain ⟨hc1, hf1⟩ := bcell hb1; have hz1 : w.heap.size < w1.heap.size := (by have := hb1.size; (try simp at this); omega)) | (go_at_call 59; refine (refCompare_any _ _ _ _ _ _ _).mono ?_; rintro e w2 ⟨rfl, hb2⟩))
  all_goals go_ret
  all_goals refine ⟨ret_int ?_, ?_⟩
  all_goals first | (have hsw := cmpK_swap su ss sk lu ls lk; unfold fileS; simp only []; (repeat' split) <;> simp_all <;> omega) | exact (by repeat (first | exact Below.refl _ _ | (with_reducible assumption) | refine bal ?_ _ | refine bset ?_ (by simp) _ | refine bdr ?_ | refine btr ?_ (by with_reducible assumption)))

/-- What lies in memory while a file's two keys are asked. -/
structure KeysIn (B : Nat) (lv nu sz : Int) (su : ByteArray) (ss sk : Int) (lu : ByteArray) (ls lk : Int) (wr : World) : Prop where
  c3 : wr.cell? ⟨B, 3, none⟩ = some (.string su)
  c4 : wr.cell? ⟨B, 4, none⟩ = some (.int .u64 ss)
  c5 : wr.cell? ⟨B, 5, none⟩ = some (.int .i64 sk)
  c6 : wr.cell? ⟨B, 6, none⟩ = some (.string lu)
  c7 : wr.cell? ⟨B, 7, none⟩ = some (.int .u64 ls)
  c8 : wr.cell? ⟨B, 8, none⟩ = some (.int .i64 lk)
  d0 : wr.cell? ⟨B + 1, 0, none⟩ = some (.string su)
  d1 : wr.cell? ⟨B + 1, 1, none⟩ = some (.int .u64 ss)
  d2 : wr.cell? ⟨B + 1, 2, none⟩ = some (.int .i64 sk)
  d3 : wr.cell? ⟨B + 1, 3, none⟩ = some (.string lu)
  d4 : wr.cell? ⟨B + 1, 4, none⟩ = some (.int .u64 ls)
  d5 : wr.cell? ⟨B + 1, 5, none⟩ = some (.int .i64 lk)
  lt : B + 1 < wr.heap.size

theorem KeysIn.below {B : Nat} {lv nu sz : Int} {su : ByteArray} {ss sk : Int} {lu : ByteArray} {ls lk : Int} {wr w1 : World} (h : KeysIn B lv nu sz su ss sk lu ls lk wr) (hb : Below wr.heap.size wr w1) : KeysIn B lv nu sz su ss sk lu ls lk w1 :=
  have l0 : B < wr.heap.size := Nat.lt_of_succ_lt h.lt
  ⟨(hb.cell l0).trans h.c3, (hb.cell l0).trans h.c4, (hb.cell l0).trans h.c5, (hb.cell l0).trans h.c6, (hb.cell l0).trans h.c7, (hb.cell l0).trans h.c8,
   (hb.cell h.lt).trans h.d0, (hb.cell h.lt).trans h.d1, (hb.cell h.lt).trans h.d2, (hb.cell h.lt).trans h.d3, (hb.cell h.lt).trans h.d4, (hb.cell h.lt).trans h.d5, Nat.lt_of_lt_of_le h.lt hb.size⟩

set_option maxHeartbeats 1000000 in
theorem file_any (lv nu sz : Int) (su : ByteArray) (ss sk : Int) (lu : ByteArray) (ls lk : Int) (w : World) :
    Calls Try.prog 49 #[.agg #[.int .i64 lv, .int .u64 nu, .int .i64 sz, .string su, .int .u64 ss, .int .i64 sk, .string lu, .int .u64 ls, .int .i64 lk]] w fun e w' =>
      e = .returned (.int .i64 (fileS ⟨lv, nu, sz, su, ss, sk, lu, ls, lk⟩)) ∧ Below w.heap.size w w' := by
  by_cases hp : placeS lv nu = 0
  · have hp' : (placeS lv nu != 0) = false := by simp [hp]
    by_cases hz : sz < 1 ∨ 2147483647 < sz
    · have HP := Lib.hid hp
      have HZ := Lib.hid hz
      clear hp
      go_enter Try.func49, Try.ntmps49
      rcases hz with hz | hz
      all_goals go_wp2_with (go_at_call 48; refine (place_any _ _ _).mono ?_; rintro e w' ⟨rfl, rfl⟩)
      all_goals go_ret
      all_goals exact ⟨ret_int (by unfold fileS; simp only []; rw [if_neg (by simpa using HP.out), if_pos HZ.out]), (by repeat (first | exact Below.refl _ _ | (with_reducible assumption) | refine bal ?_ _ | refine bset ?_ (by simp) _ | refine bdr ?_ | refine btr ?_ (by with_reducible assumption)))⟩
    · have hz1 : 1 ≤ sz := by omega
      have hz2 : sz ≤ 2147483647 := by omega
      have HP := Lib.hid hp
      have HZ := Lib.hid hz
      clear hp hz
      go_enter Try.func49, Try.ntmps49
      go_wp2_with (go_at_call 48; refine (place_any _ _ _).mono ?_; rintro e w' ⟨rfl, rfl⟩)
      go_loopw [29] (fun i wr => ∃ n : Nat, n ≤ 2 ∧ i = .int .i64 n ∧ KeysIn w.heap.size lv nu sz su ss sk lu ls lk wr ∧ Hid ((1 ≤ n → keyS su ss sk = 0) ∧ (2 ≤ n → keyS lu ls lk = 0)) ∧ Below w.heap.size w wr) (fun i _ => 2 - (intOf i).toNat)
      case atStart => exact ⟨0, Nat.zero_le _, rfl, by constructor <;> go_simp, Lib.hid ⟨by simp, by simp⟩, (by repeat (first | exact Below.refl _ _ | (with_reducible assumption) | refine bal ?_ _ | refine bset ?_ (by simp) _ | refine bdr ?_ | refine btr ?_ (by with_reducible assumption)))⟩
      case round =>
        obtain ⟨n, hn, rfl, hF, hz, hb⟩ := hrel
        obtain ⟨c3, c4, c5, c6, c7, c8, d0, d1, d2, d3, d4, d5, lt⟩ := hF
        have hF : KeysIn w.heap.size lv nu sz su ss sk lu ls lk wr := ⟨c3, c4, c5, c6, c7, c8, d0, d1, d2, d3, d4, d5, lt⟩
        rcases (show n = 0 ∨ n = 1 ∨ n = 2 by omega) with rfl | rfl | rfl
        · by_cases h1 : keyS su ss sk = 0
          · have n1 : (keyS su ss sk != 0) = false := by simp [h1]
            have H1 := Lib.hid h1
            clear h1
            go_wp2_with (go_at_call 64; refine (keyCheck_any _ _ _ _).mono ?_; rintro e w1 ⟨rfl, hb1⟩)
            go_roundw
            case rel => exact ⟨1, by omega, rfl, (hF.below (bal (Below.refl _ _) _)).below hb1, Lib.hid ⟨fun _ => H1.out, by simp⟩, (by repeat (first | exact Below.refl _ _ | (with_reducible assumption) | refine bal ?_ _ | refine bset ?_ (by simp) _ | refine bdr ?_ | refine btr ?_ (by with_reducible assumption)))⟩
            case measure => simp [intOf]
          · have n1 : (keyS su ss sk != 0) = true := by simp [h1]
            have H1 := Lib.hid h1
            clear h1
            go_wp2_with (go_at_call 64; refine (keyCheck_any _ _ _ _).mono ?_; rintro e w1 ⟨rfl, hb1⟩)
            go_ret
            exact ⟨ret_int (by unfold fileS; simp only []; rw [if_neg (by simpa using HP.out), if_neg HZ.out, if_pos H1.out]), (by repeat (first | exact Below.refl _ _ | (with_reducible assumption) | refine bal ?_ _ | refine bset ?_ (by simp) _ | refine bdr ?_ | refine btr ?_ (by with_reducible assumption)))⟩
        · by_cases h1 : keyS lu ls lk = 0
          · have n1 : (keyS lu ls lk != 0) = false := by simp [h1]
            have H1 := Lib.hid h1
            clear h1
            go_wp2_with (go_at_call 64; refine (keyCheck_any _ _ _ _).mono ?_; rintro e w1 ⟨rfl, hb1⟩)
            go_roundw
            case rel => exact ⟨2, by omega, rfl, (hF.below (bal (Below.refl _ _) _)).below hb1, Lib.hid ⟨fun _ => hz.out.1 (by omega), fun _ => H1.out⟩, (by repeat (first | exact Below.refl _ _ | (with_reducible assumption) | refine bal ?_ _ | refine bset ?_ (by simp) _ | refine bdr ?_ | refine btr ?_ (by with_reducible assumption)))⟩
            case measure => simp [intOf]
          · have n1 : (keyS lu ls lk != 0) = true := by simp [h1]
            have H1 := Lib.hid h1
            clear h1
            go_wp2_with (go_at_call 64; refine (keyCheck_any _ _ _ _).mono ?_; rintro e w1 ⟨rfl, hb1⟩)
            go_ret
            exact ⟨ret_int (by unfold fileS; simp only []; rw [if_neg (by simpa using HP.out), if_neg HZ.out, if_neg (by simp [hz.out.1 (by omega)]), if_pos H1.out]), (by repeat (first | exact Below.refl _ _ | (with_reducible assumption) | refine bal ?_ _ | refine bset ?_ (by simp) _ | refine bdr ?_ | refine btr ?_ (by with_reducible assumption)))⟩
        · go_wp2_with (go_at_call 65; refine (keyCompare_any _ _ _ _ _ _ _).mono ?_; rintro e w1 ⟨rfl, hb1⟩)
          all_goals go_ret
          all_goals exact ⟨ret_int (by unfold fileS; simp only []; rw [if_neg (by simpa using HP.out), if_neg HZ.out, if_neg (by simp [hz.out.1 (by omega)]), if_neg (by simp [hz.out.2 (by omega)])]; split <;> omega), (by repeat (first | exact Below.refl _ _ | (with_reducible assumption) | refine bal ?_ _ | refine bset ?_ (by simp) _ | refine bdr ?_ | refine btr ?_ (by with_reducible assumption)))⟩
  · have hp' : (placeS lv nu != 0) = true := by simp [hp]
    have HP := Lib.hid hp
    clear hp
    go_enter Try.func49, Try.ntmps49
    go_wp2_with (go_at_call 48; refine (place_any _ _ _).mono ?_; rintro e w' ⟨rfl, rfl⟩)
    go_ret
    exact ⟨ret_int (by unfold fileS; simp only []; rw [if_pos HP.out]), (by repeat (first | exact Below.refl _ _ | (with_reducible assumption) | refine bal ?_ _ | refine bset ?_ (by simp) _ | refine bdr ?_ | refine btr ?_ (by with_reducible assumption)))⟩

end Go.Proofs.Ytjeanhaadbkncaa
