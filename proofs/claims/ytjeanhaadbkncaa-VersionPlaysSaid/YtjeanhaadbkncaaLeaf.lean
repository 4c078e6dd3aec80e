/- The walks of the smallest functions: places, keys, comparisons. -/
import Derived.Test.YtjeanhaadbkncaaRows
import Derived.Test.YtjeanhaadbkncaaData
import Derived.Test.YtjeanhaadbkncaaMem
import Derived.WalkLawsBesides
import Derived.Lib.Hide
namespace Go.Proofs.Ytjeanhaadbkncaa
open Go.RowKit

theorem ret_int {k : IntKind} {a b : Int} (h : a = b) : Ending.returned (.int k a) = .returned (.int k b) := by rw [h]
theorem ret_bool {a b : Bool} (h : a = b) : Ending.returned (.bool a) = .returned (.bool b) := by rw [h]

set_option maxHeartbeats 400000 in
theorem place_any (l n : Int) (w : World) :
    Calls Try.prog 48 #[.int .i64 l, .int .u64 n] w fun e w' => e = .returned (.int .i64 (placeS l n)) ∧ w = w' := by
  go_enter Try.func48, Try.ntmps48
  go_wp2
  all_goals go_ret
  all_goals exact ⟨ret_int (by unfold placeS; (repeat' split) <;> omega), rfl⟩

set_option maxHeartbeats 400000 in
theorem refPlace_any (l n : Int) (w : World) :
    Calls Try.prog 57 #[.int .i64 l, .int .u64 n] w fun e w' => e = .returned (.int .i64 (placeS l n)) ∧ w = w' := by
  go_enter Try.func57, Try.ntmps57
  go_wp2
  all_goals go_ret
  all_goals exact ⟨ret_int (by unfold placeS; (repeat' split) <;> omega), rfl⟩

set_option maxHeartbeats 400000 in
theorem cmpU_any (a b : Int) (w : World) :
    Calls Try.prog 91 #[.int .u64 a, .int .u64 b] w fun e w' => e = .returned (.int .i64 (cmpI a b)) ∧ w = w' := by
  go_enter Try.func91, Try.ntmps91
  go_wp2
  all_goals go_ret
  all_goals exact ⟨ret_int (by unfold cmpI; (repeat' split) <;> omega), rfl⟩

set_option maxHeartbeats 400000 in
theorem cmpInt_any (a b : Int) (w : World) :
    Calls Try.prog 92 #[.int .i64 a, .int .i64 b] w fun e w' => e = .returned (.int .i64 (cmpI a b)) ∧ w = w' := by
  go_enter Try.func92, Try.ntmps92
  go_wp2
  all_goals go_ret
  all_goals exact ⟨ret_int (by unfold cmpI; (repeat' split) <;> omega), rfl⟩

theorem run_cmpstring (a b : ByteArray) (w : World) : (callFunc 83 #[.string a, .string b]).run Try.prog w = .ok (.value (.int .i64 (cmpB a b))) w := by
  rw [run_callFunc_extern Try.func83 (by kernel_rfl) (by kernel_rfl) (by kernel_rfl) (e := Extern.BytealgCompare.compare) (by kernel_rfl), Lib.run_compareString]
  rfl

set_option maxHeartbeats 400000 in
theorem strCmp_any (a b : ByteArray) (w : World) :
    Calls Try.prog 53 #[.string a, .string b] w fun e w' => e = .returned (.int .i64 (cmpB a b)) ∧ w = w' := by
  have hc := run_cmpstring a b
  go_enter Try.func53, Try.ntmps53
  go_wp2
  go_ret
  exact ⟨rfl, rfl⟩

set_option maxRecDepth 100000 in
set_option maxHeartbeats 400000 in
theorem keyCheck_any (u : ByteArray) (s k : Int) (w : World) :
    Calls Try.prog 64 #[.agg #[.string u, .int .u64 s, .int .i64 k]] w fun e w' => e = .returned (.int .i64 (keyS u s k)) ∧ Below w.heap.size w w' := by
  have i0 : ∀ w, (Instr.index 112 (.agg #[.int .i64 0, .int .i64 23, .int .i64 22, .int .i64 21]) (.int .i64 0)).run Try.prog w = .ok (.int .i64 0) w := fun _ => by kernel_rfl
  have i1 : ∀ w, (Instr.index 112 (.agg #[.int .i64 0, .int .i64 23, .int .i64 22, .int .i64 21]) (.int .i64 1)).run Try.prog w = .ok (.int .i64 23) w := fun _ => by kernel_rfl
  have i2 : ∀ w, (Instr.index 112 (.agg #[.int .i64 0, .int .i64 23, .int .i64 22, .int .i64 21]) (.int .i64 2)).run Try.prog w = .ok (.int .i64 22) w := fun _ => by kernel_rfl
  have i3 : ∀ w, (Instr.index 112 (.agg #[.int .i64 0, .int .i64 23, .int .i64 22, .int .i64 21]) (.int .i64 3)).run Try.prog w = .ok (.int .i64 21) w := fun _ => by kernel_rfl
  go_enter Try.func64, Try.ntmps64
  go_wp2
  all_goals go_ret
  all_goals exact ⟨ret_int (by unfold keyS; (repeat' split) <;> simp_all <;> omega), (Below.refl _ _).alloc (Nat.le_refl _) _⟩

set_option maxHeartbeats 400000 in
theorem refKeyCheck_any (u : ByteArray) (s k : Int) (w : World) :
    Calls Try.prog 58 #[.agg #[.string u, .int .u64 s, .int .i64 k]] w fun e w' => e = .returned (.int .i64 (keyS u s k)) ∧ Below w.heap.size w w' := by
  go_enter Try.func58, Try.ntmps58
  go_wp2
  all_goals go_ret
  all_goals exact ⟨ret_int (by unfold keyS; (repeat' split) <;> simp_all <;> omega), (Below.refl _ _).alloc (Nat.le_refl _) _⟩

set_option maxHeartbeats 400000 in
theorem aUser_any (u : ByteArray) (s k : Int) (u' : ByteArray) (s' k' : Int) (w : World) :
    Calls Try.prog 80 #[.agg #[.string u, .int .u64 s, .int .i64 k], .agg #[.string u', .int .u64 s', .int .i64 k']] w fun e w' => e = .returned (.int .i64 (cmpB u u')) ∧ Below w.heap.size w w' := by
  go_enter Try.func80, Try.ntmps80
  go_wp2_with (go_at_call 53; refine (strCmp_any _ _ _).mono ?_; rintro e w' ⟨rfl, rfl⟩)
  go_ret
  exact ⟨rfl, ((Below.refl _ _).alloc (Nat.le_refl _) _).alloc (by simp) _⟩

set_option maxHeartbeats 400000 in
theorem aSeq_any (u : ByteArray) (s k : Int) (u' : ByteArray) (s' k' : Int) (w : World) :
    Calls Try.prog 81 #[.agg #[.string u, .int .u64 s, .int .i64 k], .agg #[.string u', .int .u64 s', .int .i64 k']] w fun e w' => e = .returned (.int .i64 (cmpI s' s)) ∧ Below w.heap.size w w' := by
  go_enter Try.func81, Try.ntmps81
  go_wp2_with (go_at_call 91; refine (cmpU_any _ _ _).mono ?_; rintro e w' ⟨rfl, rfl⟩)
  go_ret
  exact ⟨rfl, ((Below.refl _ _).alloc (Nat.le_refl _) _).alloc (by simp) _⟩

set_option maxHeartbeats 400000 in
theorem aKind_any (u : ByteArray) (s k : Int) (u' : ByteArray) (s' k' : Int) (w : World) :
    Calls Try.prog 82 #[.agg #[.string u, .int .u64 s, .int .i64 k], .agg #[.string u', .int .u64 s', .int .i64 k']] w fun e w' => e = .returned (.int .i64 (cmpI k' k)) ∧ Below w.heap.size w w' := by
  go_enter Try.func82, Try.ntmps82
  go_wp2_with (go_at_call 92; refine (cmpInt_any _ _ _).mono ?_; rintro e w' ⟨rfl, rfl⟩)
  go_ret
  exact ⟨rfl, ((Below.refl _ _).alloc (Nat.le_refl _) _).alloc (by simp) _⟩

/-- What lies in memory while the three comparisons are asked. -/
structure CmpIn (B : Nat) (u : ByteArray) (s k : Int) (u' : ByteArray) (s' k' : Int) (wr : World) : Prop where
  c0 : wr.cell? ⟨B + 1, 0, none⟩ = some (.string u')
  c1 : wr.cell? ⟨B + 1, 1, none⟩ = some (.int .u64 s')
  c2 : wr.cell? ⟨B + 1, 2, none⟩ = some (.int .i64 k')
  d0 : wr.cell? ⟨B + 1 + 1 + 1, 0, none⟩ = some (.func (.func 80) #[.agg #[.string u, .int .u64 s, .int .i64 k]] #[])
  d1 : wr.cell? ⟨B + 1 + 1 + 1, 1, none⟩ = some (.func (.func 81) #[.agg #[.string u, .int .u64 s, .int .i64 k]] #[])
  d2 : wr.cell? ⟨B + 1 + 1 + 1, 2, none⟩ = some (.func (.func 82) #[.agg #[.string u, .int .u64 s, .int .i64 k]] #[])
  lt : B + 1 + 1 + 1 < wr.heap.size

theorem CmpIn.below {B : Nat} {u : ByteArray} {s k : Int} {u' : ByteArray} {s' k' : Int} {wr w1 : World} (h : CmpIn B u s k u' s' k' wr) (hb : Below wr.heap.size wr w1) : CmpIn B u s k u' s' k' w1 :=
  ⟨(hb.cell (by have := h.lt; exact Nat.lt_of_le_of_lt (by simp) this)).trans h.c0, (hb.cell (by have := h.lt; exact Nat.lt_of_le_of_lt (by simp) this)).trans h.c1,
   (hb.cell (by have := h.lt; exact Nat.lt_of_le_of_lt (by simp) this)).trans h.c2, (hb.cell h.lt).trans h.d0, (hb.cell h.lt).trans h.d1, (hb.cell h.lt).trans h.d2, Nat.lt_of_lt_of_le h.lt hb.size⟩

set_option maxRecDepth 100000 in
set_option maxHeartbeats 1000000 in
theorem keyCompare_any (u : ByteArray) (s k : Int) (u' : ByteArray) (s' k' : Int) (w : World) :
    Calls Try.prog 65 #[.agg #[.string u, .int .u64 s, .int .i64 k], .agg #[.string u', .int .u64 s', .int .i64 k']] w fun e w' => e = .returned (.int .i64 (cmpK u s k u' s' k')) ∧ Below w.heap.size w w' := by
  go_enter Try.func65, Try.ntmps65
  go_wp2_with fail
  go_loopw [19] (fun i wr => ∃ n : Nat, n ≤ 3 ∧ i = .int .i64 n ∧ CmpIn w.heap.size u s k u' s' k' wr ∧ Hid ((1 ≤ n → cmpB u u' = 0) ∧ (2 ≤ n → cmpI s' s = 0) ∧ (3 ≤ n → cmpI k' k = 0)) ∧ Below w.heap.size w wr) (fun i _ => 3 - (intOf i).toNat)
  case atStart => exact ⟨0, Nat.zero_le _, rfl, by constructor <;> go_simp, Lib.hid ⟨by simp, by simp, by simp⟩, bal (bal (bal (bal (Below.refl _ _) _) _) _) _⟩
  case round =>
    obtain ⟨n, hn, rfl, hF, hz, hb⟩ := hrel
    obtain ⟨c0, c1, c2, d0, d1, d2, lt⟩ := hF
    have hF : CmpIn w.heap.size u s k u' s' k' wr := ⟨c0, c1, c2, d0, d1, d2, lt⟩
    clear lt
    rcases (show n = 0 ∨ n = 1 ∨ n = 2 ∨ n = 3 by omega) with rfl | rfl | rfl | rfl
    · by_cases h1 : cmpB u u' = 0
      · have n1 : (cmpB u u' != 0) = false := by simp [h1]
        have H1 := Lib.hid h1
        clear h1
        go_wp2_with (go_at_call 80; refine (aUser_any _ _ _ _ _ _ _).mono ?_; rintro e w1 ⟨rfl, hb1⟩)
        go_roundw
        case rel => exact ⟨1, by omega, rfl, hF.below hb1, Lib.hid ⟨fun _ => H1.out, by simp, by simp⟩, btr hb hb1⟩
        case measure => simp [intOf]
      · have n1 : (cmpB u u' != 0) = true := by simp [h1]
        have H1 := Lib.hid h1
        clear h1
        go_wp2_with (go_at_call 80; refine (aUser_any _ _ _ _ _ _ _).mono ?_; rintro e w1 ⟨rfl, hb1⟩)
        go_ret
        exact ⟨ret_int (by unfold cmpK; rw [if_pos H1.out]), btr hb hb1⟩
    · by_cases h1 : cmpI s' s = 0
      · have n1 : (cmpI s' s != 0) = false := by simp [h1]
        have H1 := Lib.hid h1
        clear h1
        go_wp2_with (go_at_call 81; refine (aSeq_any _ _ _ _ _ _ _).mono ?_; rintro e w1 ⟨rfl, hb1⟩)
        go_roundw
        case rel => exact ⟨2, by omega, rfl, hF.below hb1, Lib.hid ⟨fun _ => hz.out.1 (by omega), fun _ => H1.out, by simp⟩, btr hb hb1⟩
        case measure => simp [intOf]
      · have n1 : (cmpI s' s != 0) = true := by simp [h1]
        have H1 := Lib.hid h1
        clear h1
        go_wp2_with (go_at_call 81; refine (aSeq_any _ _ _ _ _ _ _).mono ?_; rintro e w1 ⟨rfl, hb1⟩)
        go_ret
        exact ⟨ret_int (by unfold cmpK; rw [if_neg (by simp [hz.out.1 (by omega)]), if_pos H1.out]), btr hb hb1⟩
    · by_cases h1 : cmpI k' k = 0
      · have n1 : (cmpI k' k != 0) = false := by simp [h1]
        have H1 := Lib.hid h1
        clear h1
        go_wp2_with (go_at_call 82; refine (aKind_any _ _ _ _ _ _ _).mono ?_; rintro e w1 ⟨rfl, hb1⟩)
        go_roundw
        case rel => exact ⟨3, by omega, rfl, hF.below hb1, Lib.hid ⟨fun _ => hz.out.1 (by omega), fun _ => hz.out.2.1 (by omega), fun _ => H1.out⟩, btr hb hb1⟩
        case measure => simp [intOf]
      · have n1 : (cmpI k' k != 0) = true := by simp [h1]
        have H1 := Lib.hid h1
        clear h1
        go_wp2_with (go_at_call 82; refine (aKind_any _ _ _ _ _ _ _).mono ?_; rintro e w1 ⟨rfl, hb1⟩)
        go_ret
        exact ⟨ret_int (by unfold cmpK; rw [if_neg (by simp [hz.out.1 (by omega)]), if_neg (by simp [hz.out.2.1 (by omega)])]), btr hb hb1⟩
    · go_wp2
      go_ret
      exact ⟨ret_int (by unfold cmpK; rw [if_neg (by simp [hz.out.1 (by omega)]), if_neg (by simp [hz.out.2.1 (by omega)]), hz.out.2.2 (by omega)]), hb⟩

end Go.Proofs.Ytjeanhaadbkncaa
