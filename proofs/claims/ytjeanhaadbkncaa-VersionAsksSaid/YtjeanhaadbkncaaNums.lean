/- The walk of version.Nums: all numbers, rising. -/
import Derived.Test.YtjeanhaadbkncaaRefCheck
import Derived.Test.YtjeanhaadbkncaaSortOwn
namespace Go.Proofs.Ytjeanhaadbkncaa
open Go.RowKit

set_option maxRecDepth 100000 in
set_option maxHeartbeats 4000000 in
theorem nums_any (ao : Nat → Option Addr) (L : Nat → List Fl) (c : Nat → Nat) (w : World) (hv : ∀ i, i < 4 → At w encF 9 (ao i) (c i) (L i)) (hsz : ∀ i, i < 4 → (L i).length ≤ 1000000) :
    Calls Try.prog 22 #[.agg #[.slice (ao 0) (L 0).length (c 0), .slice (ao 1) (L 1).length (c 1), .slice (ao 2) (L 2).length (c 2), .slice (ao 3) (L 3).length (c 3)]] w fun e w' =>
      ∃ ao' c', e = .returned (.slice ao' (risen (seenS L 4 0)).length c') ∧ At w' encN 1 ao' c' (risen (seenS L 4 0)) ∧ Below w.heap.size w w' := by
  have hidx : ∀ (n : Nat), n < 4 → ∀ w, (Instr.index 24 (.agg #[.slice (ao 0) (L 0).length (c 0), .slice (ao 1) (L 1).length (c 1), .slice (ao 2) (L 2).length (c 2), .slice (ao 3) (L 3).length (c 3)]) (.int .i64 (n : Int))).run Try.prog w = .ok (.slice (ao n) (L n).length (c n)) w := by
    intro n hn w
    rcases (show n = 0 ∨ n = 1 ∨ n = 2 ∨ n = 3 by omega) with rfl | rfl | rfl | rfl <;> kernel_rfl
  obtain ⟨W0, hW0⟩ : ∃ W0, W0 = w.alloc (.cells #[.slice (ao 0) (L 0).length (c 0), .slice (ao 1) (L 1).length (c 1), .slice (ao 2) (L 2).length (c 2), .slice (ao 3) (L 3).length (c 3)] 26) := ⟨_, rfl⟩
  have hb0 : Below w.heap.size w W0 := by rw [hW0]; exact bal (Below.refl _ _) _
  have HAT := Lib.hid (fun i hi => (hv i hi).below hb0)
  have HW := Lib.hid hW0
  have HIDX := Lib.hid hidx
  have HLEN := Lib.hid (fun n m (hn : n < 4) => seenS_len L n m hn hsz)
  have HSZ := Lib.hid hsz
  clear hv hW0 hidx hsz
  go_enter Try.func22, Try.ntmps22
  go_wp2_with fail
  go_loopw [3, 10] (fun v i wr => ∃ n : Nat, n ≤ 4 ∧ i = .int .i64 n ∧ wr.ownsRow W0.heap.size 33 1 v (seenS L n 0).length ((seenS L n 0).flatMap encN) ∧ Below W0.heap.size W0 wr) (fun _ i _ => 4 - (intOf i).toNat)
  case atStart => exact ⟨0, Nat.zero_le _, rfl, World.ownsRow_nil _ _ _ _, by rw [HW.out]; exact Below.refl _ _⟩
  case round =>
    obtain ⟨n, hn, rfl, hown, hb⟩ := hrel
    by_cases hlt : n < 4
    · have hix := HIDX.out n hlt
      have hlen := HSZ.out n hlt
      have hd4 : decide ((n : Int) < 4) = true := by simp; omega
      go_wp2_with fail
      go_loopw [3, 15] (fun v i wr => ∃ m : Nat, m ≤ (L n).length ∧ i = .int .i64 m ∧ wr.ownsRow W0.heap.size 33 1 v (seenS L n m).length ((seenS L n m).flatMap encN) ∧ Below W0.heap.size W0 wr) (fun _ i _ => (L n).length - (intOf i).toNat)
      case atStart => exact ⟨0, Nat.zero_le _, rfl, hown, hb⟩
      case round =>
        clear hb hown
        obtain ⟨m, hm, rfl, hown, hb⟩ := hrel
        by_cases hltm : m < (L n).length
        · obtain ⟨f, hf⟩ : ∃ f, (L n)[m]? = some f := ⟨_, List.getElem?_eq_getElem hltm⟩
          obtain ⟨b, off, hbl, hix2, hcs⟩ := idx_at (P := Try.prog) ((HAT.out n hlt).below hb) 23 50 Try.underlying23 Try.sizeOf50 hf
          have HST := Lib.hid (seenS_step L n m f hf)
          have hsl := Lib.hid (HLEN.out n m hlt)
          clear hf
          obtain ⟨lv, nu, sz, su, ss, sk, lu, ls, lk⟩ := f
          obtain ⟨e0, e1, e2, e3, e4, e5, e6, e7, e8⟩ := file_cells hcs
          dsimp only at e0 e1 e2 e3 e4 e5 e6 e7 e8 HST
          clear hcs
          go_wp2_with (at_builtin; go_loud (refine wpList_append_at _ rfl (.tmp 19) (.tmp 22) 55 rfl encN 1 encN_len encN_one W0.heap.size 33 _ 8 Try.underlying55 Try.infoNum rfl (by decide) _ (seenS L n m) rfl ((hown.alloc _).alloc _) _ _ _ [nu] rfl rfl (at_one' _ encN 1 _ encN_len nu _ rfl (by simp)) (by have := hsl.out; simp only [List.length_cons, List.length_nil]; omega) (by have := hsl.out; simp only [List.length_cons, List.length_nil, maxLen]; omega) (Nat.le_trans hb.size (by simp; omega)) ?_); intro v' w2 hown2 hgrow2)
          have hb2 := bgr (bal (bal hb _) _) ((hown.alloc _).alloc _) hgrow2
          go_wp2
          go_roundw
          case rel => exact ⟨m + 1, by omega, by go_num, by rw [HST.out]; exact hown2, hb2⟩
          case measure => simp [intOf]; omega
        · obtain rfl : m = (L n).length := by omega
          have HNX := Lib.hid (seenS_next L n)
          go_wp2
          go_roundw
          case rel => exact ⟨n + 1, by omega, by go_num, by rw [HNX.out]; exact hown, hb⟩
          case measure => simp [intOf]; omega
    · obtain rfl : n = 4 := by omega
      have hmax : (seenS L 4 0).length < 4611686018427387904 := by
        have := HLEN.out 3 (L 3).length (by omega)
        rw [seenS_next]
        omega
      have HM := Lib.hid hmax
      clear hmax
      go_wp2_with (go_at_call 47; refine (sortOwn_any _ (seenS L 4 0) W0.heap.size _ hown HM.out).mono ?_; rintro e w2 ⟨rfl, hown2, hgrow2⟩)
      have hb2 := bgr hb hown hgrow2
      go_ret
      obtain ⟨ao', c', hv', hat'⟩ := at_of_own encN_len hown2 (risen_length _).symm
      exact ⟨ao', c', by rw [hv']; rfl, hat', btr hb0 hb2⟩

end Go.Proofs.Ytjeanhaadbkncaa
