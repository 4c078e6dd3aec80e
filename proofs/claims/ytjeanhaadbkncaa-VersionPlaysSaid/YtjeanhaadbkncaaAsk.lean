/- The walks of Ask, and of the reference's Ask. -/
import Derived.Test.YtjeanhaadbkncaaRefOver
import Derived.Test.YtjeanhaadbkncaaPut
namespace Go.Proofs.Ytjeanhaadbkncaa
open Go.RowKit

/-- The files of the first n levels in which a user's key may be. -/
def askS (L : Nat → List Fl) (us : ByteArray) : Nat → List Fl
  | 0 => []
  | n + 1 => askS L us n ++ overS (L n) us us
theorem askS_le (L : Nat → List Fl) (us : ByteArray) (h : ∀ i, i < 4 → (L i).length ≤ 1000000) : ∀ n, n ≤ 4 → (askS L us n).length ≤ n * 1000000
  | 0, _ => by simp [askS]
  | n + 1, hn => by
    have h1 := askS_le L us h n (by omega)
    have h2 := h n (by omega)
    have h3 : (overS (L n) us us).length ≤ (L n).length := List.length_filter_le _ _
    simp only [askS, List.length_append]
    omega

set_option maxRecDepth 100000 in
set_option maxHeartbeats 1000000 in
theorem ask_any (ao : Nat → Option Addr) (L : Nat → List Fl) (c : Nat → Nat) (us : ByteArray) (w : World) (hv : ∀ i, i < 4 → At w encF 9 (ao i) (c i) (L i)) (hsz : ∀ i, i < 4 → (L i).length ≤ 1000000) :
    Calls Try.prog 24 #[.agg #[.slice (ao 0) (L 0).length (c 0), .slice (ao 1) (L 1).length (c 1), .slice (ao 2) (L 2).length (c 2), .slice (ao 3) (L 3).length (c 3)], .string us] w fun e w' =>
      ∃ ao' c', e = .returned (.slice ao' (askS L us 4).length c') ∧ At w' encF 9 ao' c' (askS L us 4) ∧ Below w.heap.size w w' := by
  obtain ⟨W0, hW0⟩ : ∃ W0, W0 = w.alloc (.cells #[.slice (ao 0) (L 0).length (c 0), .slice (ao 1) (L 1).length (c 1), .slice (ao 2) (L 2).length (c 2), .slice (ao 3) (L 3).length (c 3)] 26) := ⟨_, rfl⟩
  have hvv : Var W0 w.heap.size #[.slice (ao 0) (L 0).length (c 0), .slice (ao 1) (L 1).length (c 1), .slice (ao 2) (L 2).length (c 2), .slice (ao 3) (L 3).length (c 3)] 26 := by rw [hW0]; exact Var.new _ _ _
  have hlt0 : w.heap.size < W0.heap.size := by rw [hW0]; simp
  have hb0 : Below w.heap.size w W0 := by rw [hW0]; exact bal (Below.refl _ _) _
  have HAT := Lib.hid (fun i hi => (hv i hi).below hb0)
  have v0 := hvv.cell 0
  have v1 := hvv.cell 1
  have v2 := hvv.cell 2
  have v3 := hvv.cell 3
  have HSZ := Lib.hid hsz
  have HW := Lib.hid hW0
  clear hW0 hv hsz hvv
  go_enter Try.func24, Try.ntmps24
  go_wp2_with fail
  go_loopw [5, 7] (fun v i wr => ∃ n : Nat, n ≤ 4 ∧ i = .int .i64 n ∧ wr.ownsRow W0.heap.size 50 9 v (askS L us n).length ((askS L us n).flatMap encF) ∧ Below W0.heap.size W0 wr) (fun _ i _ => 4 - (intOf i).toNat)
  case atStart => exact ⟨0, Nat.zero_le _, rfl, World.ownsRow_nil _ _ _ _, by rw [HW.out]; exact Below.refl _ _⟩
  case round =>
    obtain ⟨n, hn, rfl, hown, hb⟩ := hrel
    by_cases hlt : n < 4
    · have x0 := kcell hb hlt0 v0
      have x1 := kcell hb hlt0 v1
      have x2 := kcell hb hlt0 v2
      have x3 := kcell hb hlt0 v3
      have HLE := Lib.hid (askS_le L us HSZ.out n (by omega))
      have HOL : Hid (askS L us (n + 1) = askS L us n ++ overL L (n : Int) us us) := by show _ = _; unfold overL; rw [if_neg (by omega)]; rfl
      have HOB : Hid ((overL L (n : Int) us us).length ≤ 1000000) := by show _ ≤ _; unfold overL; rw [if_neg (by omega)]; exact Nat.le_trans (List.length_filter_le _ _) (HSZ.out n hlt)
      go_wp2_with (first
        | (go_at_call 21; refine (over_any ao L c _ us us _ (fun i hi => (HAT.out i hi).below hb) HSZ.out).mono ?_; rintro e w1 ⟨ao1, c1, rfl, hat1, hb1⟩)
        | (at_builtin; go_loud (refine wpList_append_at _ rfl (.tmp 10) (.tmp 15) 23 rfl encF 9 encF_len encF_one W0.heap.size 50 _ 88 Try.underlying23 Try.infoFile rfl (by decide) _ (askS L us n) rfl (own_below hown hb1) ao1 _ c1 (overL L (n : Int) us us) rfl rfl hat1 (by have := HLE.out; have := HOB.out; omega) (by have := HLE.out; have := HOB.out; unfold maxLen; omega) (btr hb hb1).size ?_); intro v' w2 hown2 hgrow2))
      have hb2 := bgr (btr hb hb1) (own_below hown hb1) hgrow2
      go_wp2
      go_roundw
      case rel => exact ⟨n + 1, by omega, by go_num, by rw [HOL.out]; exact hown2, hb2⟩
      case measure => simp [intOf]; omega
    · obtain rfl : n = 4 := by omega
      go_wp2
      go_ret
      obtain ⟨ao', c', hv', hat'⟩ := at_of_own encF_len hown rfl
      exact ⟨ao', c', by rw [hv']; rfl, hat', btr hb0 hb⟩

set_option maxRecDepth 100000 in
set_option maxHeartbeats 1000000 in
theorem refAsk_any (ao : Nat → Option Addr) (L : Nat → List Fl) (c : Nat → Nat) (us : ByteArray) (w : World) (hv : ∀ i, i < 4 → At w encF 9 (ao i) (c i) (L i)) (hsz : ∀ i, i < 4 → (L i).length ≤ 1000000) :
    Calls Try.prog 25 #[.agg #[.slice (ao 0) (L 0).length (c 0), .slice (ao 1) (L 1).length (c 1), .slice (ao 2) (L 2).length (c 2), .slice (ao 3) (L 3).length (c 3)], .string us] w fun e w' =>
      ∃ ao' c', e = .returned (.slice ao' (askS L us 4).length c') ∧ At w' encF 9 ao' c' (askS L us 4) ∧ Below w.heap.size w w' := by
  obtain ⟨W0, hW0⟩ : ∃ W0, W0 = w.alloc (.cells #[.slice (ao 0) (L 0).length (c 0), .slice (ao 1) (L 1).length (c 1), .slice (ao 2) (L 2).length (c 2), .slice (ao 3) (L 3).length (c 3)] 26) := ⟨_, rfl⟩
  have hvv : Var W0 w.heap.size #[.slice (ao 0) (L 0).length (c 0), .slice (ao 1) (L 1).length (c 1), .slice (ao 2) (L 2).length (c 2), .slice (ao 3) (L 3).length (c 3)] 26 := by rw [hW0]; exact Var.new _ _ _
  have hlt0 : w.heap.size < W0.heap.size := by rw [hW0]; simp
  have hb0 : Below w.heap.size w W0 := by rw [hW0]; exact bal (Below.refl _ _) _
  have HAT := Lib.hid (fun i hi => (hv i hi).below hb0)
  have v0 := hvv.cell 0
  have v1 := hvv.cell 1
  have v2 := hvv.cell 2
  have v3 := hvv.cell 3
  have HSZ := Lib.hid hsz
  have HW := Lib.hid hW0
  clear hW0 hv hsz hvv
  go_enter Try.func25, Try.ntmps25
  go_wp2_with fail
  go_loopw [5, 6] (fun v i wr => ∃ n : Nat, n ≤ 4 ∧ i = .int .i64 n ∧ wr.ownsRow W0.heap.size 50 9 v (askS L us n).length ((askS L us n).flatMap encF) ∧ Below W0.heap.size W0 wr) (fun _ i _ => 4 - (intOf i).toNat)
  case atStart => exact ⟨0, Nat.zero_le _, rfl, World.ownsRow_nil _ _ _ _, by rw [HW.out]; exact Below.refl _ _⟩
  case round =>
    obtain ⟨n, hn, rfl, hown, hb⟩ := hrel
    by_cases hlt : n < 4
    · have x0 := kcell hb hlt0 v0
      have x1 := kcell hb hlt0 v1
      have x2 := kcell hb hlt0 v2
      have x3 := kcell hb hlt0 v3
      have HLE := Lib.hid (askS_le L us HSZ.out n (by omega))
      have HOL : Hid (askS L us (n + 1) = askS L us n ++ overL L (n : Int) us us) := by show _ = _; unfold overL; rw [if_neg (by omega)]; rfl
      have HOB : Hid ((overL L (n : Int) us us).length ≤ 1000000) := by show _ ≤ _; unfold overL; rw [if_neg (by omega)]; exact Nat.le_trans (List.length_filter_le _ _) (HSZ.out n hlt)
      go_wp2_with (first
        | (go_at_call 23; refine (refOver_any ao L c _ us us _ (fun i hi => (HAT.out i hi).below hb) HSZ.out).mono ?_; rintro e w1 ⟨ao1, c1, rfl, hat1, hb1⟩)
        | (at_builtin; go_loud (refine wpList_append_at _ rfl (.tmp 11) (.tmp 16) 23 rfl encF 9 encF_len encF_one W0.heap.size 50 _ 88 Try.underlying23 Try.infoFile rfl (by decide) _ (askS L us n) rfl (own_below hown hb1) ao1 _ c1 (overL L (n : Int) us us) rfl rfl hat1 (by have := HLE.out; have := HOB.out; omega) (by have := HLE.out; have := HOB.out; unfold maxLen; omega) (btr hb hb1).size ?_); intro v' w2 hown2 hgrow2))
      have hb2 := bgr (btr hb hb1) (own_below hown hb1) hgrow2
      go_wp2
      go_roundw
      case rel => exact ⟨n + 1, by omega, by go_num, by rw [HOL.out]; exact hown2, hb2⟩
      case measure => simp [intOf]; omega
    · obtain rfl : n = 4 := by omega
      go_wp2
      go_ret
      obtain ⟨ao', c', hv', hat'⟩ := at_of_own encF_len hown rfl
      exact ⟨ao', c', by rw [hv']; rfl, hat', btr hb0 hb⟩

end Go.Proofs.Ytjeanhaadbkncaa
