/- The walks of the reference's Over and without. -/
import Derived.Test.YtjeanhaadbkncaaSlices
namespace Go.Proofs.Ytjeanhaadbkncaa
open Go.RowKit

set_option maxRecDepth 100000 in
set_option maxHeartbeats 1000000 in
theorem refOver_any (ao : Nat → Option Addr) (L : Nat → List Fl) (c : Nat → Nat) (lv : Int) (fr to : ByteArray) (w : World) (hv : ∀ i, i < 4 → At w encF 9 (ao i) (c i) (L i)) (hsz : ∀ i, i < 4 → (L i).length ≤ 1000000) :
    Calls Try.prog 23 #[.agg #[.slice (ao 0) (L 0).length (c 0), .slice (ao 1) (L 1).length (c 1), .slice (ao 2) (L 2).length (c 2), .slice (ao 3) (L 3).length (c 3)], .int .i64 lv, .string fr, .string to] w fun e w' =>
      ∃ ao' c', e = .returned (.slice ao' (overL L lv fr to).length c') ∧ At w' encF 9 ao' c' (overL L lv fr to) ∧ Below w.heap.size w w' := by
  by_cases h0 : lv < 0
  · have HL : Hid (overL L lv fr to = []) := by unfold overL; rw [if_pos (.inl h0)]; rfl
    go_enter Try.func23, Try.ntmps23
    go_wp2
    go_ret
    exact ⟨none, 0, by rw [HL.out]; rfl, by rw [HL.out]; exact At.nil _ _ _, (by repeat (first | exact Below.refl _ _ | (with_reducible assumption) | refine bal ?_ _ | refine bset ?_ (by simp) _ | refine bdr ?_ | refine btr ?_ (by with_reducible assumption)))⟩
  by_cases h4 : 4 ≤ lv
  · have HL : Hid (overL L lv fr to = []) := by unfold overL; rw [if_pos (.inr h4)]; rfl
    go_enter Try.func23, Try.ntmps23
    go_wp2
    go_ret
    exact ⟨none, 0, by rw [HL.out]; rfl, by rw [HL.out]; exact At.nil _ _ _, (by repeat (first | exact Below.refl _ _ | (with_reducible assumption) | refine bal ?_ _ | refine bset ?_ (by simp) _ | refine bdr ?_ | refine btr ?_ (by with_reducible assumption)))⟩
  obtain ⟨k, rfl⟩ : ∃ k : Nat, lv = k := ⟨lv.toNat, by omega⟩
  have hk : k < 4 := by omega
  have HL : Hid (overL L k fr to = overS (L k) fr to) := by unfold overL; rw [if_neg (by omega)]; rfl
  obtain ⟨W0, hW0⟩ : ∃ W0, W0 = w.alloc (.cells #[.slice (ao 0) (L 0).length (c 0), .slice (ao 1) (L 1).length (c 1), .slice (ao 2) (L 2).length (c 2), .slice (ao 3) (L 3).length (c 3)] 26) := ⟨_, rfl⟩
  have hcell : W0.cell? ⟨w.heap.size, k, none⟩ = some (.slice (ao k) (L k).length (c k)) := by
    rw [hW0]
    rcases (show k = 0 ∨ k = 1 ∨ k = 2 ∨ k = 3 by omega) with rfl | rfl | rfl | rfl <;> go_simp
  have hlt0 : w.heap.size < W0.heap.size := by rw [hW0]; simp
  have hb0 : Below w.heap.size w W0 := by rw [hW0]; exact bal (Below.refl _ _) _
  have hat := (hv k hk).below hb0
  have hlen := hsz k hk
  have HW := Lib.hid hW0
  clear hW0
  go_enter Try.func23, Try.ntmps23
  go_wp2_with fail
  go_loopw [9, 10] (fun v i wr => ∃ n : Nat, n ≤ (L k).length ∧ i = .int .i64 n ∧ wr.ownsRow W0.heap.size 50 9 v (overS ((L k).take n) fr to).length ((overS ((L k).take n) fr to).flatMap encF) ∧ Below W0.heap.size W0 wr) (fun _ i _ => (L k).length - (intOf i).toNat)
  case atStart => exact ⟨0, Nat.zero_le _, rfl, World.ownsRow_nil _ _ _ _, by rw [HW.out]; exact Below.refl _ _⟩
  case round =>
    obtain ⟨n, hn, rfl, hown, hb⟩ := hrel
    have hbox := (hb.cell (p := ⟨w.heap.size, k, none⟩) hlt0).trans hcell
    have hltr : w.heap.size < wr.heap.size := Nat.lt_of_lt_of_le hlt0 hb.size
    by_cases hlt : n < (L k).length
    · obtain ⟨f, hf⟩ : ∃ f, (L k)[n]? = some f := ⟨_, List.getElem?_eq_getElem hlt⟩
      obtain ⟨b, off, hbl, hix, hcs⟩ := idx_at (P := Try.prog) (hat.below hb) 23 50 Try.underlying23 Try.sizeOf50 hf
      have hso := overS_snoc (L k) fr to n f hf
      have hle := overS_le (L k) fr to n
      obtain ⟨lv, nu, sz, su, ss, sk, lu, ls, lk⟩ := f
      obtain ⟨e0, e1, e2, e3, e4, e5, e6, e7, e8⟩ := file_cells hcs
      dsimp only at e0 e1 e2 e3 e4 e5 e6 e7 e8 hso
      have HSO := Lib.hid hso
      clear hso hcs hf hcell
      cases hh : hasU su lu fr to
      · go_wp2_with (go_at_call 38; refine (refHas_any _ _ _ _ _ _ _ _ _ _ _ _).mono ?_; rintro e w1 ⟨rfl, hb1⟩)
        go_roundw
        case rel => exact ⟨n + 1, by omega, by go_num, by rw [HSO.out, hh]; simpa using own_below hown hb1, (by repeat (first | exact Below.refl _ _ | (with_reducible assumption) | refine bal ?_ _ | refine bset ?_ (by simp) _ | refine bdr ?_ | refine btr ?_ (by with_reducible assumption)))⟩
        case measure => simp [intOf]; omega
      · go_wp2_with (first
          | (go_at_call 38; refine (refHas_any _ _ _ _ _ _ _ _ _ _ _ _).mono ?_; rintro e w1 ⟨rfl, hb1⟩; obtain ⟨hc1, hf1⟩ := bcell hb1)
          | (at_builtin; refine wpList_append_at _ rfl (.tmp 38) (.tmp 46) 23 rfl encF 9 encF_len encF_one W0.heap.size 50 _ 88 Try.underlying23 Try.infoFile rfl (by decide) _ _ rfl ((own_below hown hb1).alloc _) _ _ _ [⟨lv, nu, sz, su, ss, sk, lu, ls, lk⟩] rfl rfl (at_one _ encF 9 _ encF_len ⟨lv, nu, sz, su, ss, sk, lu, ls, lk⟩ _ rfl) (by simp only [List.length_cons, List.length_nil]; omega) (by simp only [List.length_cons, List.length_nil, maxLen]; omega) (Nat.le_trans (btr hb hb1).size (by simp)) ?_; intro v' w2 hown2 hgrow2))
        have hb2 := bgr (bal (btr hb hb1) _) ((own_below hown hb1).alloc _) hgrow2
        go_wp2
        go_roundw
        case rel => exact ⟨n + 1, by omega, by go_num, by rw [HSO.out, hh]; exact hown2, hb2⟩
        case measure => simp [intOf]; omega
    · obtain rfl : n = (L k).length := by omega
      rw [List.take_length] at hown
      go_wp2
      go_ret
      obtain ⟨ao', c', hv', hat'⟩ := at_of_own encF_len hown rfl
      rw [HL.out]
      exact ⟨ao', c', by rw [hv']; rfl, hat', btr hb0 hb⟩

/-- Files but one number. -/
def withoutS (l : List Fl) (num : Int) : List Fl := l.filter fun f => f.nu != num
theorem withoutS_snoc (l : List Fl) (num : Int) (n : Nat) (f : Fl) (h : l[n]? = some f) : withoutS (l.take (n + 1)) num = withoutS (l.take n) num ++ (if f.nu != num then [f] else []) := by
  have : l.take (n + 1) = l.take n ++ [f] := by rw [List.take_add_one, h]; rfl
  rw [this]
  unfold withoutS
  rw [List.filter_append]
  cases h : f.nu != num <;> simp [h]
theorem withoutS_le (l : List Fl) (num : Int) (n : Nat) : (withoutS (l.take n) num).length ≤ n := by
  unfold withoutS
  exact Nat.le_trans (List.length_filter_le _ _) (List.length_take_le _ _)

set_option maxRecDepth 100000 in
set_option maxHeartbeats 1000000 in
theorem without_any (ao : Option Addr) (c : Nat) (xs : List Fl) (num : Int) (w : World) (hat : At w encF 9 ao c xs) (hsz : xs.length ≤ 1000000) :
    Calls Try.prog 37 #[.slice ao xs.length c, .int .u64 num] w fun e w' =>
      ∃ ao' c', e = .returned (.tuple #[.slice ao' (withoutS xs num).length c', .bool (decide ((withoutS xs num).length < xs.length))]) ∧ At w' encF 9 ao' c' (withoutS xs num) ∧ Below w.heap.size w w' := by
  go_enter Try.func37, Try.ntmps37
  go_wp2_with fail
  go_loopw [6, 7] (fun v i wr => ∃ n : Nat, n ≤ xs.length ∧ i = .int .i64 n ∧ wr.ownsRow w.heap.size 50 9 v (withoutS (xs.take n) num).length ((withoutS (xs.take n) num).flatMap encF) ∧ Below w.heap.size w wr) (fun _ i _ => xs.length - (intOf i).toNat)
  case atStart => exact ⟨0, Nat.zero_le _, rfl, World.ownsRow_nil _ _ _ _, Below.refl _ _⟩
  case round =>
    obtain ⟨n, hn, rfl, hown, hb⟩ := hrel
    by_cases hlt : n < xs.length
    · obtain ⟨f, hf⟩ : ∃ f, xs[n]? = some f := ⟨_, List.getElem?_eq_getElem hlt⟩
      obtain ⟨b, off, hbl, hix, hcs⟩ := idx_at (P := Try.prog) (hat.below hb) 23 50 Try.underlying23 Try.sizeOf50 hf
      have hso := withoutS_snoc xs num n f hf
      have hle := withoutS_le xs num n
      obtain ⟨lv, nu, sz, su, ss, sk, lu, ls, lk⟩ := f
      obtain ⟨e0, e1, e2, e3, e4, e5, e6, e7, e8⟩ := file_cells hcs
      dsimp only at e0 e1 e2 e3 e4 e5 e6 e7 e8 hso
      have HSO := Lib.hid hso
      clear hso hcs hf
      cases hh : (nu != num)
      · go_wp2
        go_roundw
        case rel => exact ⟨n + 1, by omega, by go_num, by rw [HSO.out, hh]; simpa using hown, hb⟩
        case measure => simp [intOf]; omega
      · go_wp2_with (at_builtin; refine wpList_append_at _ rfl (.tmp 21) (.tmp 26) 23 rfl encF 9 encF_len encF_one w.heap.size 50 _ 88 Try.underlying23 Try.infoFile rfl (by decide) _ _ rfl (hown.alloc _) _ _ _ [⟨lv, nu, sz, su, ss, sk, lu, ls, lk⟩] rfl rfl (at_one _ encF 9 _ encF_len ⟨lv, nu, sz, su, ss, sk, lu, ls, lk⟩ _ rfl) (by simp only [List.length_cons, List.length_nil]; omega) (by simp only [List.length_cons, List.length_nil, maxLen]; omega) (Nat.le_trans hb.size (by simp)) ?_; intro v' w2 hown2 hgrow2)
        have hb2 := bgr (bal hb _) (hown.alloc _) hgrow2
        go_wp2
        go_roundw
        case rel => exact ⟨n + 1, by omega, by go_num, by rw [HSO.out, hh]; exact hown2, hb2⟩
        case measure => simp [intOf]; omega
    · obtain rfl : n = xs.length := by omega
      rw [List.take_length] at hown
      obtain ⟨ao', c', hv', hat'⟩ := at_of_own encF_len hown rfl
      rw [hv']
      clear hv'
      go_wp2
      go_ret2
      exact ⟨ao', c', rfl, hat', hb⟩

end Go.Proofs.Ytjeanhaadbkncaa
