/- The walks of Size, and of the reference's Size. -/
import Derived.Test.YtjeanhaadbkncaaRefOver
import Derived.Test.YtjeanhaadbkncaaPut
namespace Go.Proofs.Ytjeanhaadbkncaa
open Go.RowKit

/-- How many bytes files have, as an int of 64 bits reckons it. -/
def sizeS (l : List Fl) : Int := l.foldl (fun a f => wrap64 (a + f.sz)) 0
def sizeL (L : Nat → List Fl) (lv : Int) : Int := if lv < 0 ∨ 4 ≤ lv then 0 else sizeS (L lv.toNat)
theorem sizeS_snoc (l : List Fl) (n : Nat) (f : Fl) (h : l[n]? = some f) : sizeS (l.take (n + 1)) = wrap64 (sizeS (l.take n) + f.sz) := by
  have : l.take (n + 1) = l.take n ++ [f] := by rw [List.take_add_one, h]; rfl
  rw [this]
  unfold sizeS
  rw [List.foldl_append]
  rfl

set_option maxRecDepth 100000 in
set_option maxHeartbeats 1000000 in
theorem size_any (ao : Nat → Option Addr) (L : Nat → List Fl) (c : Nat → Nat) (lv : Int) (w : World) (hv : ∀ i, i < 4 → At w encF 9 (ao i) (c i) (L i)) (hsz : ∀ i, i < 4 → (L i).length ≤ 1000000) :
    Calls Try.prog 28 #[.agg #[.slice (ao 0) (L 0).length (c 0), .slice (ao 1) (L 1).length (c 1), .slice (ao 2) (L 2).length (c 2), .slice (ao 3) (L 3).length (c 3)], .int .i64 lv] w fun e w' => e = .returned (.int .i64 (sizeL L lv)) ∧ Below w.heap.size w w' := by
  by_cases h0 : lv < 0
  · have HL : Hid (sizeL L lv = 0) := by show _ = _; unfold sizeL; rw [if_pos (.inl h0)]
    go_enter Try.func28, Try.ntmps28
    go_wp2
    go_ret
    exact ⟨ret_int (by rw [HL.out]), (by repeat (first | exact Below.refl _ _ | (with_reducible assumption) | refine bal ?_ _ | refine bset ?_ (by simp) _ | refine bdr ?_ | refine btr ?_ (by with_reducible assumption)))⟩
  by_cases h4 : 4 ≤ lv
  · have HL : Hid (sizeL L lv = 0) := by show _ = _; unfold sizeL; rw [if_pos (.inr h4)]
    go_enter Try.func28, Try.ntmps28
    go_wp2
    go_ret
    exact ⟨ret_int (by rw [HL.out]), (by repeat (first | exact Below.refl _ _ | (with_reducible assumption) | refine bal ?_ _ | refine bset ?_ (by simp) _ | refine bdr ?_ | refine btr ?_ (by with_reducible assumption)))⟩
  obtain ⟨k, rfl⟩ : ∃ k : Nat, lv = k := ⟨lv.toNat, by omega⟩
  have hk : k < 4 := by omega
  have HL : Hid (sizeL L k = sizeS (L k)) := by show _ = _; unfold sizeL; rw [if_neg (by omega)]; rfl
  obtain ⟨W0, hW0⟩ : ∃ W0, W0 = w.alloc (.cells #[.slice (ao 0) (L 0).length (c 0), .slice (ao 1) (L 1).length (c 1), .slice (ao 2) (L 2).length (c 2), .slice (ao 3) (L 3).length (c 3)] 26) := ⟨_, rfl⟩
  have hcell : W0.cell? ⟨w.heap.size, k, none⟩ = some (.slice (ao k) (L k).length (c k)) := by
    rw [hW0]
    rcases (show k = 0 ∨ k = 1 ∨ k = 2 ∨ k = 3 by omega) with rfl | rfl | rfl | rfl <;> go_simp
  have hcell0 : (w.alloc (.cells #[.slice (ao 0) (L 0).length (c 0), .slice (ao 1) (L 1).length (c 1), .slice (ao 2) (L 2).length (c 2), .slice (ao 3) (L 3).length (c 3)] 26)).cell? ⟨w.heap.size, k, none⟩ = some (.slice (ao k) (L k).length (c k)) := by rw [← hW0]; exact hcell
  have hlt0 : w.heap.size < W0.heap.size := by rw [hW0]; simp
  have hb0 : Below w.heap.size w W0 := by rw [hW0]; exact bal (Below.refl _ _) _
  have hat := Lib.hid ((hv k hk).below hb0)
  have hlen := hsz k hk
  have HW := Lib.hid hW0
  clear hW0
  go_enter Try.func28, Try.ntmps28
  go_wp2_with fail
  go_loopw [5, 19] (fun v i wr => ∃ n : Nat, n ≤ (L k).length ∧ i = .int .i64 n ∧ v = .int .i64 (sizeS ((L k).take n)) ∧ Below W0.heap.size W0 wr) (fun _ i _ => (L k).length - (intOf i).toNat)
  case atStart => exact ⟨0, Nat.zero_le _, rfl, rfl, by rw [HW.out]; exact Below.refl _ _⟩
  case round =>
    obtain ⟨n, hn, rfl, rfl, hb⟩ := hrel
    have hbox := (hb.cell (p := ⟨w.heap.size, k, none⟩) hlt0).trans hcell
    have hltr : w.heap.size < wr.heap.size := Nat.lt_of_lt_of_le hlt0 hb.size
    by_cases hlt : n < (L k).length
    · obtain ⟨f, hf⟩ : ∃ f, (L k)[n]? = some f := ⟨_, List.getElem?_eq_getElem hlt⟩
      obtain ⟨b, off, hbl, hix, hcs⟩ := idx_at (P := Try.prog) (hat.out.below hb) 23 50 Try.underlying23 Try.sizeOf50 hf
      have hso := sizeS_snoc (L k) n f hf
      obtain ⟨S, hS⟩ : ∃ S, S = sizeS ((L k).take n) := ⟨_, rfl⟩
      rw [← hS] at hso ⊢
      clear hS
      obtain ⟨lv, nu, sz, su, ss, sk, lu, ls, lk⟩ := f
      obtain ⟨e0, e1, e2, e3, e4, e5, e6, e7, e8⟩ := file_cells hcs
      dsimp only at e0 e1 e2 e3 e4 e5 e6 e7 e8 hso
      have HSO := Lib.hid hso
      clear hso hcs hf hcell
      go_wp2
      go_roundw
      case rel => exact ⟨n + 1, by omega, by go_num, by rw [HSO.out], (by repeat (first | exact Below.refl _ _ | (with_reducible assumption) | refine bal ?_ _ | refine bset ?_ (by simp) _ | refine bdr ?_ | refine btr ?_ (by with_reducible assumption)))⟩
      case measure => simp [intOf]; omega
    · obtain rfl : n = (L k).length := by omega
      rw [List.take_length]
      go_wp2
      go_ret
      exact ⟨ret_int (by rw [HL.out]), btr hb0 hb⟩

set_option maxRecDepth 100000 in
set_option maxHeartbeats 1000000 in
theorem refSize_any (ao : Nat → Option Addr) (L : Nat → List Fl) (c : Nat → Nat) (lv : Int) (w : World) (hv : ∀ i, i < 4 → At w encF 9 (ao i) (c i) (L i)) (hsz : ∀ i, i < 4 → (L i).length ≤ 1000000) :
    Calls Try.prog 29 #[.agg #[.slice (ao 0) (L 0).length (c 0), .slice (ao 1) (L 1).length (c 1), .slice (ao 2) (L 2).length (c 2), .slice (ao 3) (L 3).length (c 3)], .int .i64 lv] w fun e w' => e = .returned (.int .i64 (sizeL L lv)) ∧ Below w.heap.size w w' := by
  by_cases h0 : lv < 0
  · have HL : Hid (sizeL L lv = 0) := by show _ = _; unfold sizeL; rw [if_pos (.inl h0)]
    go_enter Try.func29, Try.ntmps29
    go_wp2
    go_ret
    exact ⟨ret_int (by rw [HL.out]), (by repeat (first | exact Below.refl _ _ | (with_reducible assumption) | refine bal ?_ _ | refine bset ?_ (by simp) _ | refine bdr ?_ | refine btr ?_ (by with_reducible assumption)))⟩
  by_cases h4 : 4 ≤ lv
  · have HL : Hid (sizeL L lv = 0) := by show _ = _; unfold sizeL; rw [if_pos (.inr h4)]
    go_enter Try.func29, Try.ntmps29
    go_wp2
    go_ret
    exact ⟨ret_int (by rw [HL.out]), (by repeat (first | exact Below.refl _ _ | (with_reducible assumption) | refine bal ?_ _ | refine bset ?_ (by simp) _ | refine bdr ?_ | refine btr ?_ (by with_reducible assumption)))⟩
  obtain ⟨k, rfl⟩ : ∃ k : Nat, lv = k := ⟨lv.toNat, by omega⟩
  have hk : k < 4 := by omega
  have HL : Hid (sizeL L k = sizeS (L k)) := by show _ = _; unfold sizeL; rw [if_neg (by omega)]; rfl
  obtain ⟨W0, hW0⟩ : ∃ W0, W0 = w.alloc (.cells #[.slice (ao 0) (L 0).length (c 0), .slice (ao 1) (L 1).length (c 1), .slice (ao 2) (L 2).length (c 2), .slice (ao 3) (L 3).length (c 3)] 26) := ⟨_, rfl⟩
  have hcell : W0.cell? ⟨w.heap.size, k, none⟩ = some (.slice (ao k) (L k).length (c k)) := by
    rw [hW0]
    rcases (show k = 0 ∨ k = 1 ∨ k = 2 ∨ k = 3 by omega) with rfl | rfl | rfl | rfl <;> go_simp
  have hcell0 : (w.alloc (.cells #[.slice (ao 0) (L 0).length (c 0), .slice (ao 1) (L 1).length (c 1), .slice (ao 2) (L 2).length (c 2), .slice (ao 3) (L 3).length (c 3)] 26)).cell? ⟨w.heap.size, k, none⟩ = some (.slice (ao k) (L k).length (c k)) := by rw [← hW0]; exact hcell
  have hlt0 : w.heap.size < W0.heap.size := by rw [hW0]; simp
  have hb0 : Below w.heap.size w W0 := by rw [hW0]; exact bal (Below.refl _ _) _
  have hat := Lib.hid ((hv k hk).below hb0)
  have hlen := hsz k hk
  have HW := Lib.hid hW0
  clear hW0
  go_enter Try.func29, Try.ntmps29
  go_wp2_with fail
  go_loopw [5, 6] (fun v i wr => ∃ n : Nat, n ≤ (L k).length ∧ i = .int .i64 n ∧ v = .int .i64 (sizeS ((L k).take n)) ∧ Below W0.heap.size W0 wr) (fun _ i _ => (L k).length - (intOf i).toNat)
  case atStart => exact ⟨0, Nat.zero_le _, rfl, rfl, by rw [HW.out]; exact Below.refl _ _⟩
  case round =>
    obtain ⟨n, hn, rfl, rfl, hb⟩ := hrel
    have hbox := (hb.cell (p := ⟨w.heap.size, k, none⟩) hlt0).trans hcell
    have hltr : w.heap.size < wr.heap.size := Nat.lt_of_lt_of_le hlt0 hb.size
    by_cases hlt : n < (L k).length
    · obtain ⟨f, hf⟩ : ∃ f, (L k)[n]? = some f := ⟨_, List.getElem?_eq_getElem hlt⟩
      obtain ⟨b, off, hbl, hix, hcs⟩ := idx_at (P := Try.prog) (hat.out.below hb) 23 50 Try.underlying23 Try.sizeOf50 hf
      have hso := sizeS_snoc (L k) n f hf
      obtain ⟨S, hS⟩ : ∃ S, S = sizeS ((L k).take n) := ⟨_, rfl⟩
      rw [← hS] at hso ⊢
      clear hS
      obtain ⟨lv, nu, sz, su, ss, sk, lu, ls, lk⟩ := f
      obtain ⟨e0, e1, e2, e3, e4, e5, e6, e7, e8⟩ := file_cells hcs
      dsimp only at e0 e1 e2 e3 e4 e5 e6 e7 e8 hso
      have HSO := Lib.hid hso
      clear hso hcs hf hcell
      go_wp2
      go_roundw
      case rel => exact ⟨n + 1, by omega, by go_num, by rw [HSO.out], (by repeat (first | exact Below.refl _ _ | (with_reducible assumption) | refine bal ?_ _ | refine bset ?_ (by simp) _ | refine bdr ?_ | refine btr ?_ (by with_reducible assumption)))⟩
      case measure => simp [intOf]; omega
    · obtain rfl : n = (L k).length := by omega
      rw [List.take_length]
      go_wp2
      go_ret
      exact ⟨ret_int (by rw [HL.out]), btr hb0 hb⟩

end Go.Proofs.Ytjeanhaadbkncaa
