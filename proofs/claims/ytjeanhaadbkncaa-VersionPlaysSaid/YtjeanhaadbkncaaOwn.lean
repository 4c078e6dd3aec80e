/- The walks of many, Own, there. -/
import Derived.Test.YtjeanhaadbkncaaSame
namespace Go.Proofs.Ytjeanhaadbkncaa
open Go.RowKit

/-- How many files. -/
def count (L : Nat → List Fl) : Nat := (L 0).length + (L 1).length + (L 2).length + (L 3).length

set_option maxRecDepth 100000 in
set_option maxHeartbeats 1000000 in
theorem many_any (ao : Nat → Option Addr) (L : Nat → List Fl) (c : Nat → Nat) (w : World) (hc : ∀ i, i < 4 → (L i).length ≤ 140737488351232) :
    Calls Try.prog 10 #[.agg #[.slice (ao 0) (L 0).length (c 0), .slice (ao 1) (L 1).length (c 1), .slice (ao 2) (L 2).length (c 2), .slice (ao 3) (L 3).length (c 3)]] w fun e w' => e = .returned (.bool (decide (1000 < count L))) ∧ Below w.heap.size w w' := by
  have h0 := hc 0 (by omega)
  have h1 := hc 1 (by omega)
  have h2 := hc 2 (by omega)
  have h3 := hc 3 (by omega)
  go_enter Try.func10, Try.ntmps10
  go_wp2_with fail
  refine wp_loop_rounds 5 ?_
  rw [rounds_succ]
  go_wp2_with (rw [rounds_succ])
  go_ret
  exact ⟨ret_bool (by unfold count; congr 1; simp only [eq_iff_iff]; omega), (by repeat (first | exact Below.refl _ _ | (with_reducible assumption) | refine bal ?_ _ | refine bset ?_ (by simp) _ | refine bdr ?_ | refine btr ?_ (by with_reducible assumption)))⟩

/-- v is a version of these files, level by level. -/
def IsV (w : World) (L : Nat → List Fl) (v : Value) : Prop :=
  ∃ (ao : Nat → Option Addr) (c : Nat → Nat), v = .agg #[.slice (ao 0) (L 0).length (c 0), .slice (ao 1) (L 1).length (c 1), .slice (ao 2) (L 2).length (c 2), .slice (ao 3) (L 3).length (c 3)] ∧ ∀ i, i < 4 → At w encF 9 (ao i) (c i) (L i)
theorem IsV.of {w : World} {L : Nat → List Fl} {vs : Nat → Value} (h : ∀ k, k < 4 → ∃ a d, vs k = .slice a (L k).length d ∧ At w encF 9 a d (L k)) : IsV w L (.agg #[vs 0, vs 1, vs 2, vs 3]) := by
  obtain ⟨a0, d0, h0, t0⟩ := h 0 (by omega)
  obtain ⟨a1, d1, h1, t1⟩ := h 1 (by omega)
  obtain ⟨a2, d2, h2, t2⟩ := h 2 (by omega)
  obtain ⟨a3, d3, h3, t3⟩ := h 3 (by omega)
  refine ⟨fun k => match k with | 0 => a0 | 1 => a1 | 2 => a2 | _ => a3, fun k => match k with | 0 => d0 | 1 => d1 | 2 => d2 | _ => d3, by rw [h0, h1, h2, h3]; rfl, fun k hk => ?_⟩
  rcases (show k = 0 ∨ k = 1 ∨ k = 2 ∨ k = 3 by omega) with rfl | rfl | rfl | rfl <;> assumption
theorem IsV.mk4 {w : World} {L : Nat → List Fl} {a0 a1 a2 a3 : Option Addr} {d0 d1 d2 d3 : Nat} (t0 : At w encF 9 a0 d0 (L 0)) (t1 : At w encF 9 a1 d1 (L 1)) (t2 : At w encF 9 a2 d2 (L 2)) (t3 : At w encF 9 a3 d3 (L 3)) :
    IsV w L (.agg #[.slice a0 (L 0).length d0, .slice a1 (L 1).length d1, .slice a2 (L 2).length d2, .slice a3 (L 3).length d3]) := by
  refine ⟨fun k => match k with | 0 => a0 | 1 => a1 | 2 => a2 | _ => a3, fun k => match k with | 0 => d0 | 1 => d1 | 2 => d2 | _ => d3, rfl, fun k hk => ?_⟩
  rcases (show k = 0 ∨ k = 1 ∨ k = 2 ∨ k = 3 by omega) with rfl | rfl | rfl | rfl <;> assumption
theorem IsV.below {w w' : World} {L : Nat → List Fl} {v : Value} (h : IsV w L v) (hb : Below w.heap.size w w') : IsV w' L v := by
  obtain ⟨ao, c, hv, hat⟩ := h
  exact ⟨ao, c, hv, fun i hi => (hat i hi).below hb⟩
/-- The four levels with one laid anew. -/
def upd (vs : Nat → Value) (n : Nat) (v : Value) : Nat → Value := fun k => if k = n then v else vs k
theorem upd_cells (vs : Nat → Value) (n : Nat) (v : Value) (hn : n < 4) : (#[vs 0, vs 1, vs 2, vs 3] : Array Value).setIfInBounds n v = #[upd vs n v 0, upd vs n v 1, upd vs n v 2, upd vs n v 3] := by
  rcases (show n = 0 ∨ n = 1 ∨ n = 2 ∨ n = 3 by omega) with rfl | rfl | rfl | rfl <;> simp [upd]
theorem four_get (vs : Nat → Value) (k : Nat) (hk : k < 4) : (#[vs 0, vs 1, vs 2, vs 3] : Array Value)[k]? = some (vs k) := by
  rcases (show k = 0 ∨ k = 1 ∨ k = 2 ∨ k = 3 by omega) with rfl | rfl | rfl | rfl <;> rfl

set_option maxRecDepth 100000 in
set_option maxHeartbeats 1000000 in
theorem own_any (ao : Nat → Option Addr) (L : Nat → List Fl) (c : Nat → Nat) (w : World) (hv : ∀ i, i < 4 → At w encF 9 (ao i) (c i) (L i)) (hsz : ∀ i, i < 4 → (L i).length ≤ 1000000) :
    Calls Try.prog 11 #[.agg #[.slice (ao 0) (L 0).length (c 0), .slice (ao 1) (L 1).length (c 1), .slice (ao 2) (L 2).length (c 2), .slice (ao 3) (L 3).length (c 3)]] w fun e w' =>
      ∃ v, e = .returned v ∧ IsV w' L v ∧ Below w.heap.size w w' := by
  obtain ⟨W0, hW0⟩ : ∃ W0, W0 = w.alloc (.cells #[.slice (ao 0) (L 0).length (c 0), .slice (ao 1) (L 1).length (c 1), .slice (ao 2) (L 2).length (c 2), .slice (ao 3) (L 3).length (c 3)] 26) := ⟨_, rfl⟩
  have hcell : ∀ k, k < 4 → W0.cell? ⟨w.heap.size, k, none⟩ = some (.slice (ao k) (L k).length (c k)) := by
    intro k hk
    rw [hW0]
    rcases (show k = 0 ∨ k = 1 ∨ k = 2 ∨ k = 3 by omega) with rfl | rfl | rfl | rfl <;> go_simp
  have hsz0 : W0.heap.size = w.heap.size + 1 := by rw [hW0]; simp
  have hb0 : Below w.heap.size w W0 := by rw [hW0]; exact bal (Below.refl _ _) _
  have HAT := Lib.hid (fun i hi => (hv i hi).below hb0)
  have HW := Lib.hid hW0
  have HC := Lib.hid hcell
  have HS := Lib.hid hsz0
  clear hW0 hcell hsz0
  go_enter Try.func11, Try.ntmps11
  go_wp2_with fail
  go_loopw [4] (fun i wr => ∃ n : Nat, n ≤ 4 ∧ i = .int .i64 n ∧ Var wr (w.heap.size + 1) #[.slice none 0 0, .slice none 0 0, .slice none 0 0, .slice none 0 0] 26 ∧ (∃ vs : Nat → Value, Var wr (w.heap.size + 1 + 1) #[vs 0, vs 1, vs 2, vs 3] 26 ∧ Hid (∀ k, k < n → ∃ a d, vs k = .slice a (L k).length d ∧ (∀ b, a = some b → w.heap.size + 1 + 1 < b.block) ∧ At wr encF 9 a d (L k))) ∧ Below W0.heap.size W0 wr) (fun i _ => 4 - (intOf i).toNat)
  case atStart =>
    refine ⟨0, Nat.zero_le _, rfl, ?_, ⟨fun _ => .slice none 0 0, ?_, Lib.hid (fun j hj => by omega)⟩, ?_⟩
    · rw [← HS.out, HW.out]; exact (Var.new _ _ _).alloc _
    · exact Var.new' _ _ _ (by simp)
    · rw [HW.out]; exact bal (bal (Below.refl _ _) _) _
  case round =>
    obtain ⟨n, hn, rfl, hr, ⟨vs, hvs, hk⟩, hb⟩ := hrel
    by_cases hlt : n < 4
    · have hbox : wr.cell? ⟨w.heap.size, n, none⟩ = some (.slice (ao n) (L n).length (c n)) := (hb.cell (by rw [HS.out]; exact Nat.lt_succ_self _)).trans (HC.out n hlt)
      have hcv : wr.cell? ⟨w.heap.size + 1 + 1, n, none⟩ = some (vs n) := (hvs.cell n).trans (four_get vs n hlt)
      have hfv := hvs.free n
      have hlv := hvs.lt
      have hl0 : w.heap.size < wr.heap.size := by omega
      have hat := (HAT.out n hlt).below hb
      have hlen := hsz n hlt
      have hown : (wr.alloc (.cells #[] 50)).ownsRow wr.heap.size 50 9 (.slice (some ⟨wr.heap.size, 0, none⟩) 0 0) ([] : List Fl).length (([] : List Fl).flatMap encF) :=
        World.ownsRow_made wr #[] 0 (Nat.le_refl _) (Nat.zero_le _) rfl
      go_wp2_with (at_builtin; refine wpList_append_at _ rfl (.tmp 10) (.tmp 14) 23 rfl encF 9 encF_len encF_one wr.heap.size 50 _ 88 Try.underlying23 Try.infoFile rfl (by decide) _ _ rfl hown _ _ _ (L n) rfl rfl (hat.below (bal (Below.refl _ _) _)) (by simp only [List.length_nil]; omega) (by simp only [List.length_nil, maxLen]; omega) (by simp) ?_; intro v' w2 hown2 hgrow2; obtain ⟨a', d', rfl, hat', hbb⟩ := at_of_own' encF_len hown2 rfl; have hb2 := bgr (bal (Below.refl _ _) _) hown hgrow2; obtain ⟨hc2, hf2⟩ := bcell hb2; simp only [List.nil_append] at hat' ⊢; clear hown2 hgrow2)
      go_roundw
      case rel =>
        have hb3 : Below W0.heap.size W0 w2 := btr hb hb2
        refine ⟨n + 1, by omega, by go_num, (hr.below hb2).setOther (by simp) _, ⟨upd vs n (.slice a' (L n).length d'), ?_, Lib.hid (fun k hk' => ?_)⟩, bset hb3 (by rw [HS.out]; simp) _⟩
        · rw [← upd_cells vs n _ hlt]
          exact (hvs.below hb2).set n _
        · by_cases hkn : k = n
          · subst hkn
            exact ⟨a', d', by simp [upd], fun b hb => Nat.lt_of_lt_of_le hlv (hbb b hb), hat'.setCell _ fun b hb e => by have := hbb b hb; simp at e; omega⟩
          · obtain ⟨a, d, h1, h2, h3⟩ := hk.out k (by omega)
            exact ⟨a, d, by simp [upd, hkn, h1], h2, (h3.below hb2).setCell _ fun b hb e => by have := h2 b hb; simp at e; omega⟩
      case measure => simp [intOf]; omega
    · obtain rfl : n = 4 := by omega
      obtain ⟨a0, d0, h0, g0, t0⟩ := hk.out 0 (by omega)
      obtain ⟨a1, d1, h1, g1, t1⟩ := hk.out 1 (by omega)
      obtain ⟨a2, d2, h2, g2, t2⟩ := hk.out 2 (by omega)
      obtain ⟨a3, d3, h3, g3, t3⟩ := hk.out 3 (by omega)
      have c0 : wr.cell? ⟨w.heap.size + 1 + 1, 0, none⟩ = some (.slice a0 (L 0).length d0) := (hvs.cell 0).trans (by rw [← h0]; rfl)
      have c1 : wr.cell? ⟨w.heap.size + 1 + 1, 1, none⟩ = some (.slice a1 (L 1).length d1) := (hvs.cell 1).trans (by rw [← h1]; rfl)
      have c2 : wr.cell? ⟨w.heap.size + 1 + 1, 2, none⟩ = some (.slice a2 (L 2).length d2) := (hvs.cell 2).trans (by rw [← h2]; rfl)
      have c3 : wr.cell? ⟨w.heap.size + 1 + 1, 3, none⟩ = some (.slice a3 (L 3).length d3) := (hvs.cell 3).trans (by rw [← h3]; rfl)
      have r0 := hr.cell 0
      have r1 := hr.cell 1
      have r2 := hr.cell 2
      have r3 := hr.cell 3
      have f0 := hr.free 0
      have f1 := hr.free 1
      have f2 := hr.free 2
      have f3 := hr.free 3
      have H0 := Lib.hid h0
      have H1 := Lib.hid h1
      have H2 := Lib.hid h2
      have H3 := Lib.hid h3
      clear h0 h1 h2 h3
      go_wp2
      refine bodyPost_ret (v := .agg #[.slice a0 (L 0).length d0, .slice a1 (L 1).length d1, .slice a2 (L 2).length d2, .slice a3 (L 3).length d3]) (by simp [results, Try.results11, go_sem, r0, r1, r2, r3]) rfl ⟨_, rfl, ?_, ?_⟩
      · have k : ∀ {a : Option Addr} {d : Nat} {xs : List Fl} {j : Nat} {u : Value} {wx : World}, At wx encF 9 a d xs → (∀ b, a = some b → w.heap.size + 1 + 1 < b.block) → At (wx.setCell ⟨w.heap.size + 1, j, none⟩ u) encF 9 a d xs :=
          fun h hb => h.setCell _ fun b hb' e => by have := hb b hb'; simp at e; omega
        exact IsV.mk4 (k (k (k (k t0 g0) g0) g0) g0) (k (k (k (k t1 g1) g1) g1) g1) (k (k (k (k t2 g2) g2) g2) g2) (k (k (k (k t3 g3) g3) g3) g3)
      · have h1 : w.heap.size ≤ w.heap.size + 1 := by omega
        exact bset (bset (bset (bset (btr hb0 hb) h1 _) h1 _) h1 _) h1 _

end Go.Proofs.Ytjeanhaadbkncaa
