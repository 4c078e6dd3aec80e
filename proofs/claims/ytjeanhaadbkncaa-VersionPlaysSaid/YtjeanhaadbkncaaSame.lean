/- The walks of the comparisons of files, level by level. -/
import Derived.Test.YtjeanhaadbkncaaRefOver
import Derived.Test.YtjeanhaadbkncaaMem2
namespace Go.Proofs.Ytjeanhaadbkncaa
open Go.RowKit

def eqF (x y : Fl) : Bool :=
  x.lv == y.lv && x.nu == y.nu && x.sz == y.sz && eqB x.su y.su && x.ss == y.ss && x.sk == y.sk && eqB x.lu y.lu && x.ls == y.ls && x.lk == y.lk
theorem eqF_iff (x y : Fl) : eqF x y = true ↔ x = y := by
  obtain ⟨a1, a2, a3, a4, a5, a6, a7, a8, a9⟩ := x
  obtain ⟨b1, b2, b3, b4, b5, b6, b7, b8, b9⟩ := y
  simp [eqF, eqB_iff, and_assoc]

theorem run_equalKey (d : Nat) (u : ByteArray) (s k : Int) (u' : ByteArray) (s' k' : Int) (w : World) : (Op.equalIn (d + 1 + 1) 48 (.agg #[.string u, .int .u64 s, .int .i64 k]) (.agg #[.string u', .int .u64 s', .int .i64 k'])).run Try.prog w = .ok (eqB u u' && s == s' && k == k') w := by
  have hS' : Try.prog.underlying 48 = some (.struct (Try.prog.fieldsOf 48)) := by kernel_rfl
  have hp' : Try.prog.stoodInHeld 48 = false := by kernel_rfl
  rw [run_equalIn_agg w (d + 1) 48 _ _ hS' hp']
  simp only [Program.fieldsOf, Try.underlying48, eqB]
  go_simp
  by_cases h1 : u.toList = u'.toList <;> by_cases h2 : s = s' <;> by_cases h3 : k = k' <;> simp [h1, h2, h3]

set_option maxHeartbeats 1000000 in
theorem run_equalF (d : Nat) (x y : Fl) (w : World) : (Op.equalIn (d + 1 + 1 + 1) 50 (.agg (encF x).toArray) (.agg (encF y).toArray)).run Try.prog w = .ok (eqF x y) w := by
  have hS : Try.prog.underlying 50 = some (.struct (Try.prog.fieldsOf 50)) := by kernel_rfl
  have hp : Try.prog.stoodInHeld 50 = false := by kernel_rfl
  obtain ⟨a1, a2, a3, a4, a5, a6, a7, a8, a9⟩ := x
  obtain ⟨b1, b2, b3, b4, b5, b6, b7, b8, b9⟩ := y
  have hk1 := fun w => run_equalKey d a4 a5 a6 b4 b5 b6 w
  have hk2 := fun w => run_equalKey d a7 a8 a9 b7 b8 b9 w
  simp only [encF, eqF]
  rw [run_equalIn_agg w (d + 1 + 1) 50 _ _ hS hp]
  simp only [Program.fieldsOf, Try.underlying50]
  generalize eqB a4 b4 = q1 at *
  generalize eqB a7 b7 = q2 at *
  go_simp
  (repeat' split) <;> simp_all

theorem run_neqF (x y : Fl) (w : World) : (binOp .neq 50 (.agg (encF x).toArray) (.agg (encF y).toArray)).run Try.prog w = .ok (.bool (!(eqF x y))) w := by
  rw [run_neq_struct, show (10000 : Nat) = 9997 + 1 + 1 + 1 from rfl, run_equalF]
  rfl

/-- Two lists of files. -/
def sameS : List Fl → List Fl → Bool
  | [], [] => true
  | x :: xs, y :: ys => eqF x y && sameS xs ys
  | _, _ => false
theorem sameS_iff : ∀ xs ys : List Fl, sameS xs ys = true ↔ xs = ys
  | [], [] => by simp [sameS]
  | [], y :: ys => by simp [sameS]
  | x :: xs, [] => by simp [sameS]
  | x :: xs, y :: ys => by simp [sameS, eqF_iff, sameS_iff xs ys]
theorem sameS_true {xs ys : List Fl} (hl : xs.length = ys.length) (h : ∀ (j : Nat) (x y : Fl), xs[j]? = some x → ys[j]? = some y → eqF x y = true) : sameS xs ys = true := by
  rw [sameS_iff]
  apply List.ext_getElem hl
  intro j h1 h2
  exact (eqF_iff _ _).1 (h j _ _ (List.getElem?_eq_getElem h1) (List.getElem?_eq_getElem h2))
theorem sameS_false {xs ys : List Fl} {j : Nat} {x y : Fl} (hx : xs[j]? = some x) (hy : ys[j]? = some y) (h : eqF x y = false) : sameS xs ys = false := by
  cases hs : sameS xs ys
  · rfl
  · rw [(sameS_iff xs ys).1 hs] at hx
    rw [hx] at hy
    cases hy
    rw [(eqF_iff x x).2 rfl] at h
    cases h

set_option maxRecDepth 100000 in
set_option maxHeartbeats 1000000 in
theorem sameFiles_any (ao : Option Addr) (c : Nat) (xs : List Fl) (ao' : Option Addr) (c' : Nat) (ys : List Fl) (w : World) (hat : At w encF 9 ao c xs) (hat' : At w encF 9 ao' c' ys) (hsz : xs.length ≤ 1000000) :
    Calls Try.prog 26 #[.slice ao xs.length c, .slice ao' ys.length c'] w fun e w' => e = .returned (.bool (sameS xs ys)) ∧ ∃ m, w' = w.drewN m := by
  by_cases hl : xs.length = ys.length
  · have hl1 : ((xs.length : Int) != (ys.length : Int)) = false := by simp [hl]
    have HLE := Lib.hid hl
    clear hl
    go_enter Try.func26, Try.ntmps26
    go_wp2_with fail
    go_loopw [5] (fun i wr => ∃ n : Nat, n ≤ xs.length ∧ i = .int .i64 n ∧ Hid (∀ j : Nat, j < n → ∀ x y : Fl, xs[j]? = some x → ys[j]? = some y → eqF x y = true) ∧ ∃ m, wr = w.drewN m) (fun i _ => xs.length - (intOf i).toNat)
    case atStart => exact ⟨0, Nat.zero_le _, rfl, Lib.hid (fun j hj => by omega), 0, rfl⟩
    case round =>
      obtain ⟨n, hn, rfl, heq, m, rfl⟩ := hrel
      by_cases hlt : n < xs.length
      · obtain ⟨f, hf⟩ : ∃ f, xs[n]? = some f := ⟨_, List.getElem?_eq_getElem hlt⟩
        obtain ⟨g, hg⟩ : ∃ g, ys[n]? = some g := ⟨_, List.getElem?_eq_getElem (by have := HLE.out; omega)⟩
        obtain ⟨b, off, hbl, hix, hcs⟩ := idx_at (P := Try.prog) hat 23 50 Try.underlying23 Try.sizeOf50 hf
        obtain ⟨b', off', hbl', hix', hcs'⟩ := idx_at (P := Try.prog) hat' 23 50 Try.underlying23 Try.sizeOf50 hg
        have hne := fun w => run_neqF f g w
        simp only [encF] at hne
        obtain ⟨e0, e1, e2, e3, e4, e5, e6, e7, e8⟩ := file_cells hcs
        obtain ⟨g0, g1, g2, g3, g4, g5, g6, g7, g8⟩ := file_cells hcs'
        have HF := Lib.hid hf
        have HG := Lib.hid hg
        clear hcs hcs' hf hg
        cases hh : eqF f g
        · rw [hh] at hne
          have HH := Lib.hid hh
          clear hh
          go_wp2
          go_quiet (fail)
          go_wp2
          go_ret
          exact ⟨ret_bool (by rw [sameS_false HF.out HG.out HH.out]), m + nq, by first | rfl | rw [World.drewN_drewN]⟩
        · rw [hh] at hne
          have HH := Lib.hid hh
          clear hh
          go_wp2
          go_quiet (fail)
          go_wp2
          go_roundw
          case rel =>
            refine ⟨n + 1, by omega, by go_num, Lib.hid (fun j hj x y hx hy => ?_), m + nq, by first | rfl | rw [World.drewN_drewN]⟩
            by_cases hjn : j = n
            · subst hjn
              rw [HF.out] at hx
              rw [HG.out] at hy
              cases hx
              cases hy
              exact HH.out
            · exact heq.out j (by omega) x y hx hy
          case measure => simp [intOf]; omega
      · go_wp2
        go_ret
        exact ⟨ret_bool (by rw [sameS_true HLE.out fun j x y hx hy => heq.out j (by have := (List.getElem?_eq_some_iff.1 hx).1; omega) x y hx hy]), m, rfl⟩
  · have hl1 : ((xs.length : Int) != (ys.length : Int)) = true := by simp; omega
    have HLE := Lib.hid hl
    clear hl
    go_enter Try.func26, Try.ntmps26
    go_wp2
    go_ret
    refine ⟨ret_bool ?_, 0, rfl⟩
    cases hs : sameS xs ys
    · rfl
    · exact absurd (congrArg List.length ((sameS_iff xs ys).1 hs)) HLE.out

/-- Two versions. -/
def sameV (L M : Nat → List Fl) : Bool := sameS (L 0) (M 0) && sameS (L 1) (M 1) && sameS (L 2) (M 2) && sameS (L 3) (M 3)
theorem sameV_iff (L M : Nat → List Fl) : sameV L M = true ↔ ∀ k, k < 4 → L k = M k := by
  simp only [sameV, Bool.and_eq_true, sameS_iff]
  constructor
  · rintro ⟨⟨⟨h0, h1⟩, h2⟩, h3⟩ k hk
    rcases (show k = 0 ∨ k = 1 ∨ k = 2 ∨ k = 3 by omega) with rfl | rfl | rfl | rfl <;> assumption
  · intro h
    exact ⟨⟨⟨h 0 (by omega), h 1 (by omega)⟩, h 2 (by omega)⟩, h 3 (by omega)⟩

set_option maxRecDepth 100000 in
set_option maxHeartbeats 1000000 in
theorem same_any (ao : Nat → Option Addr) (L : Nat → List Fl) (c : Nat → Nat) (ao' : Nat → Option Addr) (M : Nat → List Fl) (c' : Nat → Nat) (w : World) (hv : ∀ i, i < 4 → At w encF 9 (ao i) (c i) (L i)) (hv' : ∀ i, i < 4 → At w encF 9 (ao' i) (c' i) (M i))
    (hsz : ∀ i, i < 4 → (L i).length ≤ 1000000) :
    Calls Try.prog 14 #[.agg #[.slice (ao 0) (L 0).length (c 0), .slice (ao 1) (L 1).length (c 1), .slice (ao 2) (L 2).length (c 2), .slice (ao 3) (L 3).length (c 3)], .agg #[.slice (ao' 0) (M 0).length (c' 0), .slice (ao' 1) (M 1).length (c' 1), .slice (ao' 2) (M 2).length (c' 2), .slice (ao' 3) (M 3).length (c' 3)]] w fun e w' =>
      e = .returned (.bool (sameV L M)) ∧ Below w.heap.size w w' := by
  obtain ⟨W0, hW0⟩ : ∃ W0, W0 = (w.alloc (.cells #[.slice (ao 0) (L 0).length (c 0), .slice (ao 1) (L 1).length (c 1), .slice (ao 2) (L 2).length (c 2), .slice (ao 3) (L 3).length (c 3)] 26)).alloc (.cells #[.slice (ao' 0) (M 0).length (c' 0), .slice (ao' 1) (M 1).length (c' 1), .slice (ao' 2) (M 2).length (c' 2), .slice (ao' 3) (M 3).length (c' 3)] 26) := ⟨_, rfl⟩
  have hcell : ∀ k, k < 4 → W0.cell? ⟨w.heap.size, k, none⟩ = some (.slice (ao k) (L k).length (c k)) := by
    intro k hk
    rw [hW0]
    rcases (show k = 0 ∨ k = 1 ∨ k = 2 ∨ k = 3 by omega) with rfl | rfl | rfl | rfl <;> go_simp
  have hcell' : ∀ k, k < 4 → W0.cell? ⟨w.heap.size + 1, k, none⟩ = some (.slice (ao' k) (M k).length (c' k)) := by
    intro k hk
    rw [hW0]
    rcases (show k = 0 ∨ k = 1 ∨ k = 2 ∨ k = 3 by omega) with rfl | rfl | rfl | rfl <;> go_simp
  have hb0 : Below w.heap.size w W0 := by rw [hW0]; exact bal (bal (Below.refl _ _) _) _
  have hat := fun i hi => (hv i hi).below hb0
  have hat' := fun i hi => (hv' i hi).below hb0
  have HW := Lib.hid hW0
  have HC := Lib.hid hcell
  have HC' := Lib.hid hcell'
  clear hW0 hcell hcell' hv hv'
  go_enter Try.func14, Try.ntmps14
  go_wp2_with fail
  go_loopw [5] (fun i wr => ∃ n : Nat, n ≤ 4 ∧ i = .int .i64 n ∧ Hid (∀ k, k < n → sameS (L k) (M k) = true) ∧ ∃ m, wr = W0.drewN m) (fun i _ => 4 - (intOf i).toNat)
  case atStart => exact ⟨0, Nat.zero_le _, rfl, Lib.hid (fun j hj => by omega), 0, by rw [HW.out]; rfl⟩
  case round =>
    obtain ⟨n, hn, rfl, heq, m, hm⟩ := hrel
    have HM := Lib.hid hm
    clear hm
    by_cases hlt : n < 4
    · have c1 : wr.cell? ⟨w.heap.size, n, none⟩ = some (.slice (ao n) (L n).length (c n)) := by rw [HM.out]; exact HC.out n hlt
      have c2 : wr.cell? ⟨w.heap.size + 1, n, none⟩ = some (.slice (ao' n) (M n).length (c' n)) := by rw [HM.out]; exact HC'.out n hlt
      have hl1 := hsz n hlt
      have hcon : ∀ q, Calls Try.prog 26 #[.slice (ao n) (L n).length (c n), .slice (ao' n) (M n).length (c' n)] (wr.drewN q) fun e w' => e = .returned (.bool (sameS (L n) (M n))) ∧ ∃ m, w' = (wr.drewN q).drewN m := fun q =>
        sameFiles_any (ao n) (c n) (L n) (ao' n) (c' n) (M n) (wr.drewN q) (by rw [HM.out]; exact ((hat n hlt).drewN m).drewN q) (by rw [HM.out]; exact ((hat' n hlt).drewN m).drewN q) hl1
      cases hh : sameS (L n) (M n)
      · rw [hh] at hcon
        have HCON := Lib.hid hcon
        have HH := Lib.hid hh
        clear hcon hh
        go_wp2
        go_quiet ((go_at_call 26; exact Calls.quiet_of (HCON.out _)))
        go_wp2
        go_ret
        refine ⟨ret_bool ?_, by rw [HM.out]; exact bdrn (bdrn hb0 _) _⟩
        cases hs : sameV L M
        · rfl
        · have := (sameV_iff L M).1 hs n hlt
          rw [(sameS_iff _ _).2 this] at HH
          cases HH.out
      · rw [hh] at hcon
        have HCON := Lib.hid hcon
        have HH := Lib.hid hh
        clear hcon hh
        go_wp2
        go_quiet ((go_at_call 26; exact Calls.quiet_of (HCON.out _)))
        go_wp2
        go_roundw
        case rel =>
          refine ⟨n + 1, by omega, by go_num, Lib.hid (fun j hj => ?_), m + nq, by rw [HM.out]; first | rfl | rw [World.drewN_drewN]⟩
          by_cases hjn : j = n
          · subst hjn; exact HH.out
          · exact heq.out j (by omega)
        case measure => simp [intOf]; omega
    · obtain rfl : n = 4 := by omega
      go_wp2
      go_ret
      exact ⟨ret_bool ((sameV_iff L M).2 fun k hk => (sameS_iff _ _).1 (heq.out k hk)).symm, by rw [HM.out]; exact bdrn hb0 _⟩

end Go.Proofs.Ytjeanhaadbkncaa
