/- The walk of there: has a file of any level a number? -/
import Derived.Test.YtjeanhaadbkncaaOwn
namespace Go.Proofs.Ytjeanhaadbkncaa
open Go.RowKit

/-- The set at block sb holds these files. -/
structure SetAt (w : World) (sb : Nat) (L : Nat → List Fl) (ao : Nat → Option Addr) (c : Nat → Nat) : Prop where
  var : Var w sb #[.slice (ao 0) (L 0).length (c 0), .slice (ao 1) (L 1).length (c 1), .slice (ao 2) (L 2).length (c 2), .slice (ao 3) (L 3).length (c 3)] 64
  lists : ∀ i, i < 4 → At w encF 9 (ao i) (c i) (L i)
  ne : ∀ i, i < 4 → ∀ b, ao i = some b → b.block ≠ sb
theorem SetAt.below {w w' : World} {sb : Nat} {L : Nat → List Fl} {ao : Nat → Option Addr} {c : Nat → Nat} (h : SetAt w sb L ao c) (hb : Below w.heap.size w w') : SetAt w' sb L ao c :=
  ⟨h.var.below hb, fun i hi => (h.lists i hi).below hb, h.ne⟩
theorem SetAt.cell {w : World} {sb : Nat} {L : Nat → List Fl} {ao : Nat → Option Addr} {c : Nat → Nat} (h : SetAt w sb L ao c) {k : Nat} (hk : k < 4) : w.cell? ⟨sb, k, none⟩ = some (.slice (ao k) (L k).length (c k)) :=
  (h.var.cell k).trans (four_get (fun k => .slice (ao k) (L k).length (c k)) k hk)

/-- Has a file of any level the number? -/
def thereS (L : Nat → List Fl) (num : Int) : Bool := (L 0).any (·.nu == num) || (L 1).any (·.nu == num) || (L 2).any (·.nu == num) || (L 3).any (·.nu == num)
theorem thereS_of {L : Nat → List Fl} {num : Int} {k : Nat} (hk : k < 4) (h : (L k).any (·.nu == num) = true) : thereS L num = true := by
  rcases (show k = 0 ∨ k = 1 ∨ k = 2 ∨ k = 3 by omega) with rfl | rfl | rfl | rfl <;> simp only [thereS, h, Bool.or_true, Bool.true_or]
theorem thereS_none {L : Nat → List Fl} {num : Int} (h : ∀ k, k < 4 → (L k).any (·.nu == num) = false) : thereS L num = false := by
  simp only [thereS, h 0 (by omega), h 1 (by omega), h 2 (by omega), h 3 (by omega), Bool.or_false]

theorem tells_there (gb : Nat) (num : Int) (w : World) (hg : w.cell? ⟨gb, 0, none⟩ = some (.int .u64 num)) : Tells 56 (.pointer (some ⟨gb, 0, none⟩)) (fun f => f.nu == num) w := by
  intro w1 hb f
  have hlt : gb < w.heap.size := World.block_lt_of_cell? w _ hg
  exact thereIs_any f.lv f.nu f.sz f.su f.ss f.sk f.lu f.ls f.lk gb 0 num w1 ((hb.cell hlt).trans hg)

set_option maxRecDepth 100000 in
set_option maxHeartbeats 1000000 in
theorem there_any (sb : Nat) (L : Nat → List Fl) (ao : Nat → Option Addr) (c : Nat → Nat) (num : Int) (w : World) (hs : SetAt w sb L ao c) (hsz : ∀ i, i < 4 → (L i).length ≤ 1000000) :
    Calls Try.prog 35 #[.pointer (some ⟨sb, 0, none⟩), .int .u64 num] w fun e w' => e = .returned (.bool (thereS L num)) ∧ Below w.heap.size w w' := by
  obtain ⟨W0, hW0⟩ : ∃ W0, W0 = w.alloc (.cells #[.int .u64 num] 33) := ⟨_, rfl⟩
  have hb0 : Below w.heap.size w W0 := by rw [hW0]; exact bal (Below.refl _ _) _
  have hs0 := Lib.hid (hs.below hb0)
  have hnum : W0.cell? ⟨w.heap.size, 0, none⟩ = some (.int .u64 num) := by rw [hW0]; go_simp
  have HN := Lib.hid hnum
  have HW := Lib.hid hW0
  have hlt0 : w.heap.size < W0.heap.size := by rw [hW0]; simp
  clear hs hW0 hnum
  go_enter Try.func35, Try.ntmps35
  go_wp2_with fail
  go_loopw [9] (fun i wr => ∃ n : Nat, n ≤ 4 ∧ i = .int .i64 n ∧ Hid (∀ k, k < n → (L k).any (·.nu == num) = false) ∧ Below W0.heap.size W0 wr) (fun i _ => 4 - (intOf i).toNat)
  case atStart => exact ⟨0, Nat.zero_le _, rfl, Lib.hid (fun j hj => by omega), by rw [HW.out]; exact Below.refl _ _⟩
  case round =>
    obtain ⟨n, hn, rfl, hno, hb⟩ := hrel
    by_cases hlt : n < 4
    · have hcl := (hs0.out.below hb).cell hlt
      have hcon := containsFunc_any 56 (.pointer (some ⟨w.heap.size, 0, none⟩)) (fun f => f.nu == num) (ao n) (c n) (L n) wr ((hs0.out.below hb).lists n hlt) (hsz n hlt) Try.call56
        (tells_there _ num wr ((hb.cell hlt0).trans HN.out))
      cases hh : (L n).any (·.nu == num)
      · rw [hh] at hcon
        have HCON := Lib.hid hcon
        have HH := Lib.hid hh
        clear hcon hh
        go_wp2_with (go_at_call 55; refine HCON.out.mono ?_; rintro e w1 ⟨rfl, hb1⟩)
        go_roundw
        case rel =>
          refine ⟨n + 1, by omega, by go_num, Lib.hid (fun j hj => ?_), (by repeat (first | exact Below.refl _ _ | (with_reducible assumption) | refine bal ?_ _ | refine bset ?_ (by simp) _ | refine bdr ?_ | refine btr ?_ (by with_reducible assumption)))⟩
          by_cases hjn : j = n
          · subst hjn; exact HH.out
          · exact hno.out j (by omega)
        case measure => simp [intOf]; omega
      · rw [hh] at hcon
        have HCON := Lib.hid hcon
        have HH := Lib.hid hh
        clear hcon hh
        go_wp2_with (go_at_call 55; refine HCON.out.mono ?_; rintro e w1 ⟨rfl, hb1⟩)
        go_ret
        exact ⟨ret_bool (thereS_of hlt HH.out).symm, btr hb0 (btr hb hb1)⟩
    · obtain rfl : n = 4 := by omega
      go_wp2
      go_ret
      exact ⟨ret_bool (thereS_none hno.out).symm, btr hb0 hb⟩

end Go.Proofs.Ytjeanhaadbkncaa
