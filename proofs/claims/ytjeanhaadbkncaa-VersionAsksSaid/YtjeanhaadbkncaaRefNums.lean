/- The walk of the reference's Nums: each number laid in its place. -/
import Derived.Test.YtjeanhaadbkncaaRefCheck
import Derived.Test.YtjeanhaadbkncaaPut
namespace Go.Proofs.Ytjeanhaadbkncaa
open Go.RowKit

/-- The place of a number: ahead of the first that is greater. -/
def posN (xs : List Int) (x : Int) : Nat := xs.findIdx fun y => decide (x < y)
def insN (xs : List Int) (x : Int) : List Int := xs.take (posN xs x) ++ x :: xs.drop (posN xs x)
/-- What is laid behind n of them. -/
def insNT (xs : List Int) (p : Nat) (x : Int) (n : Nat) : List Int := if n ≤ p then xs.take n else xs.take p ++ x :: (xs.take n).drop p
theorem posN_le (xs : List Int) (x : Int) : posN xs x ≤ xs.length := List.findIdx_le_length
theorem posN_before {xs : List Int} {x y : Int} {n : Nat} (h : n < posN xs x) (hy : xs[n]? = some y) : ¬ x < y := by
  have := List.not_of_lt_findIdx h
  obtain ⟨hl, rfl⟩ := List.getElem?_eq_some_iff.1 hy
  simpa using this
theorem posN_at {xs : List Int} {x y : Int} (hy : xs[posN xs x]? = some y) : x < y := by
  obtain ⟨hl, rfl⟩ := List.getElem?_eq_some_iff.1 hy
  have := List.findIdx_getElem (xs := xs) (p := fun y => decide (x < y)) (w := hl)
  exact of_decide_eq_true this
theorem takeN_snoc {xs : List Int} {n : Nat} {y : Int} (h : xs[n]? = some y) : xs.take (n + 1) = xs.take n ++ [y] := by rw [List.take_add_one, h]; rfl
theorem insNT_before {xs : List Int} {p : Nat} {x y : Int} {n : Nat} (hn : n < p) (h : xs[n]? = some y) : insNT xs p x (n + 1) = insNT xs p x n ++ [y] := by
  unfold insNT
  rw [if_pos (by omega), if_pos (by omega), takeN_snoc h]
theorem insNT_at {xs : List Int} {p : Nat} {x y : Int} (h : xs[p]? = some y) : insNT xs p x (p + 1) = (insNT xs p x p ++ [x]) ++ [y] := by
  have hl := (List.getElem?_eq_some_iff.1 h).1
  unfold insNT
  rw [if_neg (by omega), if_pos (Nat.le_refl _), takeN_snoc h, List.drop_append_of_le_length (by simp; omega)]
  simp
theorem insNT_behind {xs : List Int} {p : Nat} {x y : Int} {n : Nat} (hn : p < n) (h : xs[n]? = some y) : insNT xs p x (n + 1) = insNT xs p x n ++ [y] := by
  have hl := (List.getElem?_eq_some_iff.1 h).1
  unfold insNT
  rw [if_neg (by omega), if_neg (by omega), takeN_snoc h, List.drop_append_of_le_length (by simp; omega)]
  simp
theorem insNT_end {xs : List Int} {p : Nat} {x : Int} : insNT xs p x xs.length = if p < xs.length then xs.take p ++ x :: xs.drop p else xs := by
  unfold insNT
  by_cases h : p < xs.length
  · rw [if_neg (by omega), if_pos h, List.take_length]
  · rw [if_pos (by omega), if_neg h, List.take_length]
theorem insNT_le (xs : List Int) (p : Nat) (x : Int) (n : Nat) : (insNT xs p x n).length ≤ n + 1 := by
  unfold insNT
  split
  · simp only [List.length_take]; omega
  · simp only [List.length_append, List.length_cons, List.length_drop, List.length_take]; omega
theorem insN_len (xs : List Int) (x : Int) : (insN xs x).length = xs.length + 1 := by
  have := posN_le xs x
  simp [insN]; omega
/-- The numbers, each laid in its place. -/
def laidN (zs : List Int) : List Int := zs.foldl insN []
theorem laidN_snoc (zs : List Int) (z : Int) : laidN (zs ++ [z]) = insN (laidN zs) z := by simp [laidN, List.foldl_append]
theorem laidN_len (zs : List Int) : (laidN zs).length = zs.length := by
  have : ∀ (zs acc : List Int), (zs.foldl insN acc).length = acc.length + zs.length := by
    intro zs
    induction zs with
    | nil => intro acc; rfl
    | cons z zs ih => intro acc; rw [List.foldl_cons, ih, insN_len, List.length_cons]; omega
  have h := this zs []
  rw [List.length_nil, Nat.zero_add] at h
  exact h

set_option maxRecDepth 100000 in
set_option maxHeartbeats 4000000 in
theorem refNums_any (ao : Nat → Option Addr) (L : Nat → List Fl) (c : Nat → Nat) (w : World) (hv : ∀ i, i < 4 → At w encF 9 (ao i) (c i) (L i)) (hsz : ∀ i, i < 4 → (L i).length ≤ 1000000) :
    Calls Try.prog 27 #[.agg #[.slice (ao 0) (L 0).length (c 0), .slice (ao 1) (L 1).length (c 1), .slice (ao 2) (L 2).length (c 2), .slice (ao 3) (L 3).length (c 3)]] w fun e w' =>
      ∃ ao' c', e = .returned (.slice ao' (laidN (seenS L 4 0)).length c') ∧ At w' encN 1 ao' c' (laidN (seenS L 4 0)) ∧ Below w.heap.size w w' := by
  obtain ⟨W0, hW0⟩ : ∃ W0, W0 = w.alloc (.cells #[.slice (ao 0) (L 0).length (c 0), .slice (ao 1) (L 1).length (c 1), .slice (ao 2) (L 2).length (c 2), .slice (ao 3) (L 3).length (c 3)] 26) := ⟨_, rfl⟩
  have hcell : ∀ k, k < 4 → W0.cell? ⟨w.heap.size, k, none⟩ = some (.slice (ao k) (L k).length (c k)) := by
    intro k hk
    rw [hW0]
    rcases (show k = 0 ∨ k = 1 ∨ k = 2 ∨ k = 3 by omega) with rfl | rfl | rfl | rfl <;> go_simp
  have hb0 : Below w.heap.size w W0 := by rw [hW0]; exact bal (Below.refl _ _) _
  have hlt0 : w.heap.size < W0.heap.size := by rw [hW0]; simp
  have HAT := Lib.hid (fun i hi => (hv i hi).below hb0)
  have HC := Lib.hid hcell
  have HW := Lib.hid hW0
  have HLEN := Lib.hid (fun n m (hn : n < 4) => show (laidN (seenS L n m)).length ≤ 5000000 from Nat.le_trans (Nat.le_of_eq (laidN_len (seenS L n m))) (seenS_len L n m hn hsz))
  have HSZ := Lib.hid hsz
  clear hv hW0 hsz hcell
  go_enter Try.func27, Try.ntmps27
  go_wp2_with fail
  go_loopw [3, 4] (fun v i wr => ∃ (n : Nat) (a : Option Addr) (d : Nat), n ≤ 4 ∧ i = .int .i64 n ∧ v = .slice a (laidN (seenS L n 0)).length d ∧ At wr encN 1 a d (laidN (seenS L n 0)) ∧ Below W0.heap.size W0 wr) (fun _ i _ => 4 - (intOf i).toNat)
  case atStart => exact ⟨0, none, 0, Nat.zero_le _, rfl, rfl, At.nil _ _ _, by rw [HW.out]; exact Below.refl _ _⟩
  case round =>
    obtain ⟨n, a, d, hn, rfl, rfl, hat, hb⟩ := hrel
    by_cases hlt : n < 4
    · have hlen := HSZ.out n hlt
      have hd4 : decide ((n : Int) < 4) = true := by simp; omega
      go_wp2_with fail
      go_loopw [3, 5] (fun v i wr => ∃ (m : Nat) (a : Option Addr) (d : Nat), m ≤ (L n).length ∧ i = .int .i64 m ∧ v = .slice a (laidN (seenS L n m)).length d ∧ At wr encN 1 a d (laidN (seenS L n m)) ∧ Below W0.heap.size W0 wr) (fun _ i _ => (L n).length - (intOf i).toNat)
      case atStart => exact ⟨0, a, d, Nat.zero_le _, rfl, rfl, hat, hb⟩
      case round =>
        clear hb hat
        obtain ⟨m, a, d, hm, rfl, rfl, hat, hb⟩ := hrel
        have hn0 : (0 : Int) ≤ (n : Int) := by omega
        have hn4 : (n : Int) < 4 := by omega
        have cn := kcell hb hlt0 (HC.out n hlt)
        have hltr : w.heap.size < wr.heap.size := Nat.lt_of_lt_of_le hlt0 hb.size
        by_cases hltm : m < (L n).length
        · obtain ⟨f, hf⟩ : ∃ f, (L n)[m]? = some f := ⟨_, List.getElem?_eq_getElem hltm⟩
          obtain ⟨b, off, hbl, hix2, hcs⟩ := idx_at (P := Try.prog) ((HAT.out n hlt).below hb) 23 50 Try.underlying23 Try.sizeOf50 hf
          have HST := Lib.hid (seenS_step L n m f hf)
          have hsl := HLEN.out n m hlt
          obtain ⟨xs, hxs⟩ : ∃ xs, xs = laidN (seenS L n m) := ⟨_, rfl⟩
          rw [← hxs] at hsl hat ⊢
          have HXS := Lib.hid hxs
          clear hf hxs
          obtain ⟨lv, nu, sz, su, ss, sk, lu, ls, lk⟩ := f
          have e1 := (file_cells hcs).2.1
          dsimp only at e1 HST
          clear hcs
          obtain ⟨p, hp⟩ : ∃ p, p = posN xs nu := ⟨_, rfl⟩
          have hpl : p ≤ xs.length := by rw [hp]; exact posN_le _ _
          have HPB := Lib.hid (fun (k : Nat) (y : Int) (hk : k < p) (hy : xs[k]? = some y) => posN_before (by rw [← hp]; exact hk) hy)
          have HPA := Lib.hid (fun (y : Int) (hy : xs[p]? = some y) => posN_at (x := nu) (by rw [← hp]; exact hy))
          have HIN : Hid (laidN (seenS L n (m + 1)) = xs.take p ++ nu :: xs.drop p) := by show _ = _; rw [HST.out, laidN_snoc, ← HXS.out, insN, ← hp]
          have HINL : Hid ((laidN (seenS L n (m + 1))).length = xs.length + 1) := by show _ = _; rw [HST.out, laidN_snoc, insN_len, ← HXS.out]
          clear hp HXS
          obtain ⟨Wr, hWr⟩ : ∃ Wr, Wr = wr := ⟨_, rfl⟩
          subst hWr
          have HA := Lib.hid hat
          have HB := Lib.hid hb
          clear hat hb
          go_wp2_with fail
          go_loopw [7, 8, 9] (fun v dn i wr => ∃ k : Nat, k ≤ xs.length ∧ i = .int .i64 k ∧ dn = .bool (decide (p < k)) ∧ wr.ownsRow Wr.heap.size 33 1 v (insNT xs p nu k).length ((insNT xs p nu k).flatMap encN) ∧ Below Wr.heap.size Wr wr) (fun _ _ i _ => xs.length - (intOf i).toNat)
          case atStart => exact ⟨0, Nat.zero_le _, rfl, by rw [decide_eq_false (by omega)], by rw [insNT, if_pos (by omega)]; exact World.ownsRow_nil _ _ _ _, Below.refl _ _⟩
          case round =>
            obtain ⟨k, hk, rfl, rfl, hown, hb3⟩ := hrel
            have hil := insNT_le xs p nu k
            by_cases hltk : k < xs.length
            · obtain ⟨y, hy⟩ : ∃ y, xs[k]? = some y := ⟨_, List.getElem?_eq_getElem hltk⟩
              obtain ⟨b2, off2, hbl2, hix3, hcs2⟩ := idx_at (P := Try.prog) HA.out 55 33 Try.underlying55 Try.sizeOf33 hy
              have C2 : Wr.cell? ⟨b2, off2 + k, none⟩ = some (.int .u64 y) := by have := hcs2 0 _ rfl; rwa [Nat.mul_one, Nat.add_zero] at this
              have c2 := kcell hb3 hbl2 C2
              have hbl3 : b2 < wr.heap.size := Nat.lt_of_lt_of_le hbl2 hb3.size
              have HY := Lib.hid hy
              clear hy hcs2
              rcases Nat.lt_trichotomy k p with hkp | hkp | hkp
              · have hd : decide (p < k) = false := decide_eq_false (by omega)
                have hny : ¬ nu < y := by have := HPB.out k y hkp HY.out; omega
                have hnd : decide (nu < y) = false := decide_eq_false hny
                go_wp2_with (at_builtin; go_loud (refine wpList_append_at _ rfl (.tmp 51) (.tmp 56) 55 rfl encN 1 encN_len encN_one Wr.heap.size 33 _ 8 Try.underlying55 Try.infoNum rfl (by decide) _ (insNT xs p nu k) rfl (hown.alloc _) _ _ _ [y] rfl rfl (at_one' _ encN 1 _ encN_len y _ rfl (by simp)) (by simp only [List.length_cons, List.length_nil]; omega) (by simp only [List.length_cons, List.length_nil, maxLen]; omega) (Nat.le_trans hb3.size (by simp)) ?_); intro v' w2 hown2 hgrow2)
                have hb2 := bgr (bal hb3 _) (hown.alloc _) hgrow2
                go_wp2
                go_roundw
                case rel => exact ⟨k + 1, by omega, by go_num, by rw [decide_eq_false (by omega)], by rw [insNT_before hkp HY.out]; exact hown2, hb2⟩
                case measure => simp [intOf]; omega
              · subst hkp
                have hd : decide (k < k) = false := decide_eq_false (by omega)
                have hny : nu < y := HPA.out y HY.out
                have hnd : decide (nu < y) = true := decide_eq_true hny
                go_wp2_with (first
                  | (at_builtin; (refine wpList_append_at _ rfl (.tmp 47) (.tmp 49) 55 rfl encN 1 encN_len encN_one Wr.heap.size 33 _ 8 Try.underlying55 Try.infoNum rfl (by decide) _ (insNT xs k nu k) rfl (hown.alloc _) _ _ _ [nu] rfl rfl (at_one' _ encN 1 _ encN_len nu _ rfl (by simp)) (by simp only [List.length_cons, List.length_nil]; omega) (by simp only [List.length_cons, List.length_nil, maxLen]; omega) (Nat.le_trans hb3.size (by simp)) ?_); intro vI wI hownI hgrowI; have hbI := bgr (bal hb3 _) (hown.alloc _) hgrowI; have c3 := kcell hbI hbl2 C2)
                  | (at_builtin; go_loud (refine wpList_append_at _ rfl (.tmp 51) (.tmp 56) 55 rfl encN 1 encN_len encN_one Wr.heap.size 33 _ 8 Try.underlying55 Try.infoNum rfl (by decide) _ (insNT xs k nu k ++ [nu]) rfl (hownI.alloc _) _ _ _ [y] rfl rfl (at_one' _ encN 1 _ encN_len y _ rfl (by simp)) (by simp only [List.length_append, List.length_cons, List.length_nil]; omega) (by simp only [List.length_append, List.length_cons, List.length_nil, maxLen]; omega) (Nat.le_trans hbI.size (by simp)) ?_); intro v' w2 hown2 hgrow2))
                have hb2 := bgr (bal hbI _) (hownI.alloc _) hgrow2
                go_wp2
                go_roundw
                case rel => exact ⟨k + 1, by omega, by go_num, by rw [decide_eq_true (by omega)], by rw [insNT_at HY.out]; exact hown2, hb2⟩
                case measure => simp [intOf]; omega
              · have hd : decide (p < k) = true := decide_eq_true hkp
                go_wp2_with (at_builtin; go_loud (refine wpList_append_at _ rfl (.tmp 51) (.tmp 56) 55 rfl encN 1 encN_len encN_one Wr.heap.size 33 _ 8 Try.underlying55 Try.infoNum rfl (by decide) _ (insNT xs p nu k) rfl (hown.alloc _) _ _ _ [y] rfl rfl (at_one' _ encN 1 _ encN_len y _ rfl (by simp)) (by simp only [List.length_cons, List.length_nil]; omega) (by simp only [List.length_cons, List.length_nil, maxLen]; omega) (Nat.le_trans hb3.size (by simp)) ?_); intro v' w2 hown2 hgrow2)
                have hb2 := bgr (bal hb3 _) (hown.alloc _) hgrow2
                go_wp2
                go_roundw
                case rel => exact ⟨k + 1, by omega, by go_num, by rw [decide_eq_true (by omega)], by rw [insNT_behind hkp HY.out]; exact hown2, hb2⟩
                case measure => simp [intOf]; omega
            · obtain rfl : k = xs.length := by omega
              have HE := Lib.hid (insNT_end (xs := xs) (p := p) (x := nu))
              by_cases hpx : p < xs.length
              · have hd : decide (p < xs.length) = true := decide_eq_true hpx
                go_wp2
                go_roundw
                case rel =>
                  obtain ⟨a', d', hv', hat'⟩ := at_of_own (xs := laidN (seenS L n (m + 1))) encN_len (by rw [HIN.out]; have := hown; rw [HE.out, if_pos hpx] at this; exact this) (by rw [HINL.out]; simp; omega)
                  exact ⟨m + 1, a', d', by omega, by go_num, hv', hat', HB.out.trans (hb3.mono HB.out.size)⟩
                case measure => simp [intOf]; omega
              · have hd : decide (p < xs.length) = false := decide_eq_false hpx
                go_wp2_with (at_builtin; go_loud (refine wpList_append_at _ rfl (.tmp 60) (.tmp 62) 55 rfl encN 1 encN_len encN_one Wr.heap.size 33 _ 8 Try.underlying55 Try.infoNum rfl (by decide) _ (insNT xs p nu xs.length) rfl (hown.alloc _) _ _ _ [nu] rfl rfl (at_one' _ encN 1 _ encN_len nu _ rfl (by simp)) (by simp only [List.length_cons, List.length_nil]; omega) (by simp only [List.length_cons, List.length_nil, maxLen]; omega) (Nat.le_trans hb3.size (by simp)) ?_); intro v' w2 hown2 hgrow2)
                have hb2 := bgr (bal hb3 _) (hown.alloc _) hgrow2
                go_wp2
                go_roundw
                case rel =>
                  have hpe : p = xs.length := by omega
                  obtain ⟨a', d', hv', hat'⟩ := at_of_own (xs := laidN (seenS L n (m + 1))) encN_len (by rw [HIN.out]; have := hown2; rw [HE.out, if_neg hpx] at this; rw [hpe, List.take_length, List.drop_length]; exact this) (by rw [HINL.out]; simp)
                  exact ⟨m + 1, a', d', by omega, by go_num, hv', hat', HB.out.trans (hb2.mono HB.out.size)⟩
                case measure => simp [intOf]; omega
        · obtain rfl : m = (L n).length := by omega
          have HNX := Lib.hid (seenS_next L n)
          go_wp2
          go_roundw
          case rel => exact ⟨n + 1, a, d, by omega, by go_num, by rw [HNX.out], by rw [HNX.out]; exact hat, hb⟩
          case measure => simp [intOf]; omega
    · obtain rfl : n = 4 := by omega
      go_wp2
      go_ret
      exact ⟨a, d, rfl, hat, btr hb0 hb⟩

end Go.Proofs.Ytjeanhaadbkncaa
