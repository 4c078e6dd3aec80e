/- The walks of what asks a file's users; the closures; a law's file. -/
import Derived.Test.YtjeanhaadbkncaaFile
namespace Go.Proofs.Ytjeanhaadbkncaa
open Go.RowKit

set_option maxHeartbeats 1000000 in
theorem has_any (lv nu sz : Int) (su : ByteArray) (ss sk : Int) (lu : ByteArray) (ls lk : Int) (fr to : ByteArray) (w : World) :
    Calls Try.prog 46 #[.agg #[.int .i64 lv, .int .u64 nu, .int .i64 sz, .string su, .int .u64 ss, .int .i64 sk, .string lu, .int .u64 ls, .int .i64 lk], .string fr, .string to] w fun e w' =>
      e = .returned (.bool (hasU su lu fr to)) ∧ Below w.heap.size w w' := by
  have hmax := fun w => run_max_B (P := Try.prog) #[9, 9] 9 fr su w
  have hmin := fun w => run_min_B (P := Try.prog) #[9, 9] 9 to lu w
  go_enter Try.func46, Try.ntmps46
  go_wp2
  go_ret
  exact ⟨ret_bool (has_maxmin _ _ _ _), (by repeat (first | exact Below.refl _ _ | (with_reducible assumption) | refine bal ?_ _ | refine bset ?_ (by simp) _ | refine bdr ?_ | refine btr ?_ (by with_reducible assumption)))⟩

set_option maxHeartbeats 1000000 in
theorem refHas_any (lv nu sz : Int) (su : ByteArray) (ss sk : Int) (lu : ByteArray) (ls lk : Int) (fr to : ByteArray) (w : World) :
    Calls Try.prog 38 #[.agg #[.int .i64 lv, .int .u64 nu, .int .i64 sz, .string su, .int .u64 ss, .int .i64 sk, .string lu, .int .u64 ls, .int .i64 lk], .string fr, .string to] w fun e w' =>
      e = .returned (.bool (hasU su lu fr to)) ∧ Below w.heap.size w w' := by
  go_enter Try.func38, Try.ntmps38
  go_wp2
  all_goals go_ret
  all_goals exact ⟨ret_bool (by simp_all [hasU, leB, ltB, eqB]), (by repeat (first | exact Below.refl _ _ | (with_reducible assumption) | refine bal ?_ _ | refine bset ?_ (by simp) _ | refine bdr ?_ | refine btr ?_ (by with_reducible assumption)))⟩

set_option maxHeartbeats 1000000 in
theorem apart_any (lv nu sz : Int) (su : ByteArray) (ss sk : Int) (lu : ByteArray) (ls lk : Int) (lv' nu' sz' : Int) (su' : ByteArray) (ss' sk' : Int) (lu' : ByteArray) (ls' lk' : Int) (w : World) :
    Calls Try.prog 41 #[.agg #[.int .i64 lv, .int .u64 nu, .int .i64 sz, .string su, .int .u64 ss, .int .i64 sk, .string lu, .int .u64 ls, .int .i64 lk], .agg #[.int .i64 lv', .int .u64 nu', .int .i64 sz', .string su', .int .u64 ss', .int .i64 sk', .string lu', .int .u64 ls', .int .i64 lk']] w fun e w' =>
      e = .returned (.bool (ltB lu su')) ∧ Below w.heap.size w w' := by
  go_enter Try.func41, Try.ntmps41
  go_wp2
  go_ret
  exact ⟨rfl, (by repeat (first | exact Below.refl _ _ | (with_reducible assumption) | refine bal ?_ _ | refine bset ?_ (by simp) _ | refine bdr ?_ | refine btr ?_ (by with_reducible assumption)))⟩

/-- A file of one level, of a law's own. -/
theorem lawFile_any (lv nu : Int) (fr to : ByteArray) (w : World) :
    Calls Try.prog 30 #[.int .i64 lv, .int .u64 nu, .string fr, .string to] w fun e w' =>
      e = .returned (.agg #[.int .i64 lv, .int .u64 nu, .int .i64 1, .string fr, .int .u64 1, .int .i64 1, .string to, .int .u64 1, .int .i64 1]) ∧ Below w.heap.size w w' := by
  go_enter Try.func30, Try.ntmps30
  go_wp2
  exact bodyPost_ret (v := .agg #[.int .i64 lv, .int .u64 nu, .int .i64 1, .string fr, .int .u64 1, .int .i64 1, .string to, .int .u64 1, .int .i64 1]) (by simp [results, Try.results30, go_sem]) rfl ⟨rfl, (by repeat (first | exact Below.refl _ _ | (with_reducible assumption) | refine bal ?_ _ | refine bset ?_ (by simp) _ | refine bdr ?_ | refine btr ?_ (by with_reducible assumption)))⟩

/-- The closure that asks a file's number: the file is boxed; the number lies in a variable of its own. -/
theorem dropIs_any (lv nu sz : Int) (su : ByteArray) (ss sk : Int) (lu : ByteArray) (ls lk : Int) (gb go : Nat) (gn : Int) (w : World) (hg : w.cell? ⟨gb, go + 1, none⟩ = some (.int .u64 gn)) :
    Calls Try.prog 51 #[.agg #[.int .i64 lv, .int .u64 nu, .int .i64 sz, .string su, .int .u64 ss, .int .i64 sk, .string lu, .int .u64 ls, .int .i64 lk], .pointer (some ⟨gb, go, none⟩)] w fun e w' =>
      e = .returned (.bool (nu == gn)) ∧ Below w.heap.size w w' := by
  have hlt : gb < w.heap.size := World.block_lt_of_cell? w _ hg
  go_enter Try.func51, Try.ntmps51
  go_wp2
  go_ret
  exact ⟨rfl, (by repeat (first | exact Below.refl _ _ | (with_reducible assumption) | refine bal ?_ _ | refine bset ?_ (by simp) _ | refine bdr ?_ | refine btr ?_ (by with_reducible assumption)))⟩

theorem thereIs_any (lv nu sz : Int) (su : ByteArray) (ss sk : Int) (lu : ByteArray) (ls lk : Int) (gb go : Nat) (gn : Int) (w : World) (hg : w.cell? ⟨gb, go, none⟩ = some (.int .u64 gn)) :
    Calls Try.prog 56 #[.agg #[.int .i64 lv, .int .u64 nu, .int .i64 sz, .string su, .int .u64 ss, .int .i64 sk, .string lu, .int .u64 ls, .int .i64 lk], .pointer (some ⟨gb, go, none⟩)] w fun e w' =>
      e = .returned (.bool (nu == gn)) ∧ Below w.heap.size w w' := by
  have hlt : gb < w.heap.size := World.block_lt_of_cell? w _ hg
  go_enter Try.func56, Try.ntmps56
  go_wp2
  go_ret
  exact ⟨rfl, (by repeat (first | exact Below.refl _ _ | (with_reducible assumption) | refine bal ?_ _ | refine bset ?_ (by simp) _ | refine bdr ?_ | refine btr ?_ (by with_reducible assumption)))⟩

/-- Is the file ahead of another one in its level? -/
def aheadS (lv nu : Int) (lu : ByteArray) (nu' : Int) (su' : ByteArray) : Bool := if lv == 0 then decide (nu' < nu) else ltB lu su'

set_option maxHeartbeats 1000000 in
theorem putIs_any (lv nu sz : Int) (su : ByteArray) (ss sk : Int) (lu : ByteArray) (ls lk : Int) (gb go : Nat) (gl gn : Int) (gu : ByteArray) (w : World) (h0 : w.cell? ⟨gb, go, none⟩ = some (.int .i64 gl)) (h1 : w.cell? ⟨gb, go + 1, none⟩ = some (.int .u64 gn)) (h2 : w.cell? ⟨gb, go + 6, none⟩ = some (.string gu)) :
    Calls Try.prog 52 #[.agg #[.int .i64 lv, .int .u64 nu, .int .i64 sz, .string su, .int .u64 ss, .int .i64 sk, .string lu, .int .u64 ls, .int .i64 lk], .pointer (some ⟨gb, go, none⟩)] w fun e w' =>
      e = .returned (.bool (aheadS gl gn gu nu su)) ∧ Below w.heap.size w w' := by
  have hlt : gb < w.heap.size := World.block_lt_of_cell? w _ h0
  go_enter Try.func52, Try.ntmps52
  go_wp2_with (go_at_call 53; refine (strCmp_any _ _ _).mono ?_; rintro e w' ⟨rfl, rfl⟩)
  all_goals go_ret
  all_goals refine ⟨ret_bool ?_, (by repeat (first | exact Below.refl _ _ | (with_reducible assumption) | refine bal ?_ _ | refine bset ?_ (by simp) _ | refine bdr ?_ | refine btr ?_ (by with_reducible assumption)))⟩
  · simp_all [aheadS]
  · simp_all [aheadS]
    rw [Bool.eq_iff_iff]
    simp [cmpB_neg]

end Go.Proofs.Ytjeanhaadbkncaa
