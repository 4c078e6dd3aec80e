/- The walks of Over: the files of a level that have users. -/
import Derived.Test.YtjeanhaadbkncaaFile2
namespace Go.Proofs.Ytjeanhaadbkncaa
open Go.RowKit

/-- The files that have a user from 'fr' to 'to'. -/
def overS (l : List Fl) (fr to : ByteArray) : List Fl := l.filter fun f => hasU f.su f.lu fr to
/-- The level's. -/
def overL (L : Nat → List Fl) (lv : Int) (fr to : ByteArray) : List Fl := if lv < 0 ∨ 4 ≤ lv then [] else overS (L lv.toNat) fr to

theorem overS_snoc (l : List Fl) (fr to : ByteArray) (n : Nat) (f : Fl) (h : l[n]? = some f) : overS (l.take (n + 1)) fr to = overS (l.take n) fr to ++ (if hasU f.su f.lu fr to then [f] else []) := by
  have : l.take (n + 1) = l.take n ++ [f] := by rw [List.take_add_one, h]; rfl
  rw [this]
  unfold overS
  rw [List.filter_append]
  cases h : hasU f.su f.lu fr to <;> simp [h]
theorem overS_le (l : List Fl) (fr to : ByteArray) (n : Nat) : (overS (l.take n) fr to).length ≤ n := by
  unfold overS
  exact Nat.le_trans (List.length_filter_le _ _) (List.length_take_le _ _)
theorem encF_one : ∀ f, ∀ u ∈ encF f, u.oneCell' = true := by
  intro f u hu
  simp only [encF, List.mem_cons, List.not_mem_nil, or_false] at hu
  rcases hu with rfl | rfl | rfl | rfl | rfl | rfl | rfl | rfl | rfl <;> rfl

theorem Try.infoFile : (Try.prog.info? 50).map (fun i => (i.zero, i.size, i.bytes)) = some (some (.agg #[.int .i64 0, .int .u64 0, .int .i64 0, .string ⟨#[]⟩, .int .u64 0, .int .i64 0, .string ⟨#[]⟩, .int .u64 0, .int .i64 0]), 9, 88) := by kernel_rfl

/-- The nine cells of a file. -/
theorem file_cells {w : World} {b o : Nat} {f : Fl} (h : ∀ j u, (encF f)[j]? = some u → w.cell? ⟨b, o + j, none⟩ = some u) :
    w.cell? ⟨b, o, none⟩ = some (.int .i64 f.lv) ∧ w.cell? ⟨b, o + 1, none⟩ = some (.int .u64 f.nu) ∧ w.cell? ⟨b, o + 2, none⟩ = some (.int .i64 f.sz) ∧ w.cell? ⟨b, o + 3, none⟩ = some (.string f.su) ∧
    w.cell? ⟨b, o + 4, none⟩ = some (.int .u64 f.ss) ∧ w.cell? ⟨b, o + 5, none⟩ = some (.int .i64 f.sk) ∧ w.cell? ⟨b, o + 6, none⟩ = some (.string f.lu) ∧ w.cell? ⟨b, o + 7, none⟩ = some (.int .u64 f.ls) ∧ w.cell? ⟨b, o + 8, none⟩ = some (.int .i64 f.lk) :=
  ⟨h 0 _ rfl, h 1 _ rfl, h 2 _ rfl, h 3 _ rfl, h 4 _ rfl, h 5 _ rfl, h 6 _ rfl, h 7 _ rfl, h 8 _ rfl⟩

set_option maxRecDepth 100000 in
set_option maxHeartbeats 1000000 in
theorem over_any (ao : Nat → Option Addr) (L : Nat → List Fl) (c : Nat → Nat) (lv : Int) (fr to : ByteArray) (w : World) (hv : ∀ i, i < 4 → At w encF 9 (ao i) (c i) (L i)) (hsz : ∀ i, i < 4 → (L i).length ≤ 1000000) :
    Calls Try.prog 21 #[.agg #[.slice (ao 0) (L 0).length (c 0), .slice (ao 1) (L 1).length (c 1), .slice (ao 2) (L 2).length (c 2), .slice (ao 3) (L 3).length (c 3)], .int .i64 lv, .string fr, .string to] w fun e w' =>
      ∃ ao' c', e = .returned (.slice ao' (overL L lv fr to).length c') ∧ At w' encF 9 ao' c' (overL L lv fr to) ∧ Below w.heap.size w w' := by
  by_cases h0 : lv < 0
  · have HL : Hid (overL L lv fr to = []) := by unfold overL; rw [if_pos (.inl h0)]; rfl
    go_enter Try.func21, Try.ntmps21
    go_wp2
    go_ret
    exact ⟨none, 0, by rw [HL.out]; rfl, by rw [HL.out]; exact At.nil _ _ _, (by repeat (first | exact Below.refl _ _ | (with_reducible assumption) | refine bal ?_ _ | refine bset ?_ (by simp) _ | refine bdr ?_ | refine btr ?_ (by with_reducible assumption)))⟩
  by_cases h4 : 4 ≤ lv
  · have HL : Hid (overL L lv fr to = []) := by unfold overL; rw [if_pos (.inr h4)]; rfl
    go_enter Try.func21, Try.ntmps21
    go_wp2
    go_ret
    exact ⟨none, 0, by rw [HL.out]; rfl, by rw [HL.out]; exact At.nil _ _ _, (by repeat (first | exact Below.refl _ _ | (with_reducible assumption) | refine bal ?_ _ | refine bset ?_ (by simp) _ | refine bdr ?_ | refine btr ?_ (by with_reducible assumption)))⟩
  obtain ⟨k, rfl⟩ : ∃ k : Nat, lv = k := ⟨lv.toNat, by omega⟩
  have hk : k < 4 := by omega
  have HL : Hid (overL L k fr to = overS (L k) fr to) := by unfold overL; rw [if_neg (by omega)]; rfl
  have hcell : (w.alloc (.cells #[.slice (ao 0) (L 0).length (c 0), .slice (ao 1) (L 1).length (c 1), .slice (ao 2) (L 2).length (c 2), .slice (ao 3) (L 3).length (c 3)] 26)).cell? ⟨w.heap.size, k, none⟩ = some (.slice (ao k) (L k).length (c k)) := by
    rcases (show k = 0 ∨ k = 1 ∨ k = 2 ∨ k = 3 by omega) with rfl | rfl | rfl | rfl <;> go_simp
  have hat := hv k hk
  have hlen := hsz k hk
  go_enter Try.func21, Try.ntmps21
  go_wp2_with fail
  go_loopw [9, 23] (fun v i wr => ∃ n : Nat, n ≤ (L k).length ∧ i = .int .i64 n ∧ wr.ownsRow w.heap.size 50 9 v (overS ((L k).take n) fr to).length ((overS ((L k).take n) fr to).flatMap encF) ∧ Below w.heap.size w wr) (fun _ i _ => (L k).length - (intOf i).toNat)
  case atStart => exact ⟨0, Nat.zero_le _, rfl, World.ownsRow_nil _ _ _ _, (by repeat (first | exact Below.refl _ _ | (with_reducible assumption) | refine bal ?_ _ | refine bset ?_ (by simp) _ | refine bdr ?_ | refine btr ?_ (by with_reducible assumption)))⟩
  case round =>
    obtain ⟨n, hn, rfl, hown, hb⟩ := hrel
    by_cases hlt : n < (L k).length
    · obtain ⟨f, hf⟩ : ∃ f, (L k)[n]? = some f := ⟨_, List.getElem?_eq_getElem hlt⟩
      obtain ⟨b, off, hbl, hix, hcs⟩ := idx_at (P := Try.prog) (hat.below hb) 23 50 Try.underlying23 Try.sizeOf50 hf
      have hso := overS_snoc (L k) fr to n f hf
      have hle := overS_le (L k) fr to n
      obtain ⟨lv, nu, sz, su, ss, sk, lu, ls, lk⟩ := f
      obtain ⟨e0, e1, e2, e3, e4, e5, e6, e7, e8⟩ := file_cells hcs
      dsimp only at e0 e1 e2 e3 e4 e5 e6 e7 e8 hso
      have HSO := Lib.hid hso
      clear hso hcs hf
      cases hh : hasU su lu fr to
      · go_wp2_with (go_at_call 46; refine (has_any _ _ _ _ _ _ _ _ _ _ _ _).mono ?_; rintro e w1 ⟨rfl, hb1⟩)
        go_roundw
        case rel => exact ⟨n + 1, by omega, by go_num, by rw [HSO.out, hh]; simpa using own_below (hown.alloc _) hb1, (by repeat (first | exact Below.refl _ _ | (with_reducible assumption) | refine bal ?_ _ | refine bset ?_ (by simp) _ | refine bdr ?_ | refine btr ?_ (by with_reducible assumption)))⟩
        case measure => simp [intOf]; omega
      · go_wp2_with (first
          | (go_at_call 46; refine (has_any _ _ _ _ _ _ _ _ _ _ _ _).mono ?_; rintro e w1 ⟨rfl, hb1⟩; obtain ⟨hc1, hf1⟩ := bcell hb1; have hz1 : wr.heap.size < w1.heap.size := (by have := hb1.size; simp at this; omega))
          | (at_builtin; go_loud (refine wpList_append_at _ rfl (.tmp 31) (.tmp 33) 23 rfl encF 9 encF_len encF_one w.heap.size 50 _ 88 Try.underlying23 Try.infoFile rfl (by decide) _ _ rfl ((own_below (hown.alloc _) hb1).alloc _) _ _ _ [⟨lv, nu, sz, su, ss, sk, lu, ls, lk⟩] rfl rfl (at_one _ encF 9 _ encF_len ⟨lv, nu, sz, su, ss, sk, lu, ls, lk⟩ _ rfl) (by simp only [List.length_cons, List.length_nil]; omega) (by simp only [List.length_cons, List.length_nil, maxLen]; omega) (Nat.le_trans (btr (bal hb _) hb1).size (by simp)) ?_); intro v' w2 hown2 hgrow2))
        have hb2 := bgr (bal (btr (bal hb _) hb1) _) ((own_below (hown.alloc _) hb1).alloc _) hgrow2
        go_wp2
        go_roundw
        case rel => exact ⟨n + 1, by omega, by go_num, by rw [HSO.out, hh]; exact hown2, hb2⟩
        case measure => simp [intOf]; omega
    · obtain rfl : n = (L k).length := by omega
      rw [List.take_length] at hown
      go_wp2
      go_ret
      obtain ⟨ao', c', hv', hat'⟩ := at_of_own encF_len hown rfl
      rw [HL.out]
      exact ⟨ao', c', by rw [hv']; rfl, hat', hb⟩

end Go.Proofs.Ytjeanhaadbkncaa
