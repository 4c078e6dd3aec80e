/- The walks of slices.Clone (its result is its own) and slices.Insert at files. -/
import Derived.Test.YtjeanhaadbkncaaSlices
import Derived.Test.YtjeanhaadbkncaaCopy
import Derived.Deep.RegionLaw
import Derived.IntWalk
namespace Go.Proofs.Ytjeanhaadbkncaa
open Go.RowKit

set_option maxHeartbeats 1000000 in
theorem clone_own (ao : Option Addr) (c : Nat) (xs : List Fl) (w : World) (hat : At w encF 9 ao c xs) (hsz : xs.length ≤ 1000000) :
    Calls Try.prog 32 #[.slice ao xs.length c] w fun e w' =>
      ∃ v, e = .returned v ∧ w'.ownsRow w.heap.size 50 9 v xs.length (xs.flatMap encF) ∧ Below w.heap.size w w' := by
  have hnil := fun (a : Option Addr) (n c : Nat) (wx : World) => Lib.run_eql_slice_nil (P := Try.prog) wx 23 50 a n c 0 0 Try.underlying23
  cases ao with
  | none =>
    obtain rfl := hat.bare rfl
    have hx : xs = [] := List.eq_nil_of_length_eq_zero (Nat.le_zero.1 hat.len)
    subst hx
    go_enter Try.func32, Try.ntmps32
    go_wp2
    go_ret
    exact ⟨_, rfl, World.ownsRow_nil _ _ _ _, (by repeat (first | exact Below.refl _ _ | (with_reducible assumption) | refine bal ?_ _ | refine bset ?_ (by simp) _ | refine bdr ?_ | refine btr ?_ (by with_reducible assumption)))⟩
  | some a =>
    have hown : (w.alloc (.cells #[] 50)).ownsRow w.heap.size 50 9 (.slice (some ⟨w.heap.size, 0, none⟩) 0 0) ([] : List Fl).length (([] : List Fl).flatMap encF) :=
      World.ownsRow_made w #[] 0 (Nat.le_refl _) (Nat.zero_le _) rfl
    go_enter Try.func32, Try.ntmps32
    go_wp2_with (at_builtin; refine wpList_append_at _ rfl (.tmp 5) (.tmp 6) 23 rfl encF 9 encF_len encF_one w.heap.size 50 _ 88 Try.underlying23 Try.infoFile rfl (by decide) _ _ rfl hown _ _ _ xs rfl rfl (hat.below (bal (Below.refl _ _) _)) (by simp only [List.length_nil]; omega) (by simp only [List.length_nil, maxLen]; omega) (by simp) ?_; intro v' w2 hown2 hgrow2)
    have hb2 := bgr (bal (Below.refl _ _) _) hown hgrow2
    go_wp2
    go_ret
    exact ⟨v', rfl, hown2, hb2⟩

/-- A list with one more at a place. -/
def insS (xs : List Fl) (i : Nat) (f : Fl) : List Fl := xs.take i ++ f :: xs.drop i
theorem insS_end (xs : List Fl) (f : Fl) : insS xs xs.length f = xs ++ [f] := by simp [insS]
theorem insS_flat (xs : List Fl) (i : Nat) (f : Fl) : (insS xs i f).flatMap encF = (xs.take i).flatMap encF ++ (encF f ++ (xs.drop i).flatMap encF) := by simp [insS]
theorem flat_take (xs : List Fl) (i : Nat) (h : i ≤ xs.length) : (xs.flatMap encF).take (i * 9) = (xs.take i).flatMap encF := by
  have e : xs.flatMap encF = (xs.take i).flatMap encF ++ (xs.drop i).flatMap encF := by rw [← List.flatMap_append, List.take_append_drop]
  have hl : ((xs.take i).flatMap encF).length = i * 9 := by rw [flat_length encF 9 encF_len, List.length_take]; omega
  rw [e, List.take_append_of_le_length (by omega), List.take_of_length_le (by omega)]
theorem flat_drop (xs : List Fl) (i : Nat) (h : i ≤ xs.length) : (xs.flatMap encF).drop (i * 9) = (xs.drop i).flatMap encF := by
  have e : xs.flatMap encF = (xs.take i).flatMap encF ++ (xs.drop i).flatMap encF := by rw [← List.flatMap_append, List.take_append_drop]
  have hl : ((xs.take i).flatMap encF).length = i * 9 := by rw [flat_length encF 9 encF_len, List.length_take]; omega
  rw [e, List.drop_append_of_le_length (by omega), List.drop_eq_nil_of_le (by omega), List.nil_append]

theorem splice_get {α : Type} (L : List α) (off : Nat) (cs : List α) (h : off + cs.length ≤ L.length) (m : Nat) :
    (splice L off cs)[m]? = if m < off then L[m]? else if m < off + cs.length then cs[m - off]? else L[m]? := by
  unfold splice
  by_cases h1 : m < off
  · rw [if_pos h1, List.getElem?_append_left (by rw [List.length_take]; omega), List.getElem?_take, if_pos h1]
  · rw [if_neg h1, List.getElem?_append_right (by rw [List.length_take]; omega), List.length_take, Nat.min_eq_left (by omega)]
    by_cases h2 : m < off + cs.length
    · rw [if_pos h2, List.getElem?_append_left (by omega)]
    · rw [if_neg h2, List.getElem?_append_right (by omega), List.getElem?_drop]
      congr 1
      omega

theorem row_ins (cur : List Value) (xs : List Fl) (i : Nat) (f : Fl) (hi : i ≤ xs.length) (hA : ∀ m : Nat, m < i * 9 → ∀ u, ((xs.take i).flatMap encF)[m]? = some u → cur[m]? = some u) (hl : (xs.length + 1) * 9 ≤ cur.length) (m : Nat) (u : Value)
    (h : ((insS xs i f).flatMap encF)[m]? = some u) :
    (splice (splice cur ((i + 1) * 9) ((xs.drop i).flatMap encF)) (i * 9) (encF f))[m]? = some u ∧ (splice (splice cur (i * 9) (encF f)) ((i + 1) * 9) ((xs.drop i).flatMap encF))[m]? = some u := by
  have lA : ((xs.take i).flatMap encF).length = i * 9 := by rw [flat_length encF 9 encF_len, List.length_take]; omega
  have lD : ((xs.drop i).flatMap encF).length = (xs.length - i) * 9 := by rw [flat_length encF 9 encF_len, List.length_drop]
  have lE := encF_len f
  have l1 : (splice cur ((i + 1) * 9) ((xs.drop i).flatMap encF)).length = cur.length := length_splice _ _ _ (by omega)
  have l2 : (splice cur (i * 9) (encF f)).length = cur.length := length_splice _ _ _ (by omega)
  rw [insS_flat] at h
  rw [splice_get _ _ _ (by omega), splice_get _ _ _ (by omega), splice_get _ _ _ (by omega), splice_get _ _ _ (by omega), lD, lE]
  by_cases h1 : m < i * 9
  · rw [List.getElem?_append_left (by omega)] at h
    have := hA m h1 u h
    rw [if_pos h1, if_pos (by omega), if_pos (by omega)]
    exact ⟨this, by rw [if_pos h1]; exact this⟩
  · rw [List.getElem?_append_right (by omega), lA] at h
    by_cases h2 : m < i * 9 + 9
    · rw [List.getElem?_append_left (by omega)] at h
      rw [if_neg h1, if_pos h2, if_pos (by omega), if_neg h1, if_pos h2]
      exact ⟨h, h⟩
    · rw [List.getElem?_append_right (by omega), lE] at h
      have hm := (List.getElem?_eq_some_iff.1 h).1
      rw [lD] at hm
      have e : m - i * 9 - 9 = m - (i + 1) * 9 := by omega
      rw [e] at h
      rw [if_neg h1, if_neg h2, if_neg (by omega), if_pos (by omega), if_neg (by omega), if_pos (by omega)]
      exact ⟨h, h⟩

/-- A row whose first cells are a list's reads as that list. -/
theorem at_of_row {w : World} {g n c : Nat} {cur : List Value} {t : TypeId} {xs : List Fl} (hg : w.heap[g]? = some (.cells cur.toArray t (0, 0))) (hx : xs.length = n) (hn : n ≤ c) (hc : c ≤ maxLen)
    (h : ∀ (m : Nat) (u : Value), (xs.flatMap encF)[m]? = some u → cur[m]? = some u) : At w encF 9 (some ⟨g, 0, none⟩) c xs :=
  ⟨by omega, hc, by simp, fun i x hi => ⟨g, 0, rfl, (Array.getElem?_eq_some_iff.1 hg).1, fun j u hu => by
    have hf := flat_get encF 9 encF_len xs i x j u hi hu
    rw [cell_of_row w g _ cur.toArray t (0, 0) hg, Nat.zero_add, List.getElem?_toArray]
    exact h _ _ hf⟩⟩

theorem Try.sizeFile : (Try.prog.info? 50).map (·.size) = some 9 := by
  obtain ⟨i, h0, h1, h2, h3⟩ := info_parts Try.infoFile
  rw [h0]
  simp [h2]

theorem arr3 (a : List Value) (b c : Array Value) : a.toArray ++ b ++ c = (a ++ (b.toList ++ c.toList)).toArray := by
  apply Array.toList_inj.1
  simp

/-- append(s[:i], make(.., n+1-i)...) where there is no room. -/
theorem grow_row (w : World) (g n i cap : Nat) (cur : Array Value) (hg : w.heap[g]? = some (.cells cur 50 (0, 0))) (hcs : cur.size = cap * 9) (hi : i < n) (hnc : n ≤ cap) (hcap : cap < n + 1) (hsz : n ≤ 1000000) :
    ∃ (gc : Nat) (row : List Value), (∀ ty, (Builtin.append_ #[23, 3] ty #[.slice (some ⟨g, 0, none⟩) i cap, .int .i64 ((n : Int) + 1 - (i : Int))]).run Try.prog w = .ok (.slice (some ⟨w.heap.size, 0, none⟩) (n + 1) gc) (w.drew.alloc (.cells row.toArray 50))) ∧
      n + 1 ≤ gc ∧ gc ≤ maxLen ∧ row.length = gc * 9 ∧ ∀ m : Nat, m < i * 9 → row[m]? = cur.toList[m]? := by
  obtain ⟨i0, hi0, hz0, hz1, hz2⟩ := info_parts Try.infoFile
  obtain ⟨z, hz⟩ : ∃ z, z = (Value.agg #[.int .i64 0, .int .u64 0, .int .i64 0, .string ⟨#[]⟩, .int .u64 0, .int .i64 0, .string ⟨#[]⟩, .int .u64 0, .int .i64 0]) := ⟨_, rfl⟩
  have hzc : z.cells.size = 9 := by rw [hz]; rfl
  rw [← hz] at hz0
  have hge := grownCap_ge w (n + 1) cap 50
  have hle := grownCap_le_maxLen w (n + 1) cap 50 (by simp [maxLen]; omega)
  have hl : (cur.toList.take (i * 9)).length = i * 9 := by rw [List.length_take]; simp; omega
  have hold : (Builtin.firstCells i0.size i (.slice (some ⟨g, 0, none⟩) i cap)).run Try.prog w.drew = .ok (cur.toList.take (i * 9)).toArray w.drew := by
    refine run_firstCells_some w.drew i0.size i ⟨g, 0, none⟩ i cap (cur.toList.take (i * 9)) (by rw [hz1, hl]) (fun j v hj => ?_)
    rw [Addr.add_lit, Nat.zero_add]
    rw [List.getElem?_take] at hj
    split at hj
    · exact (cell_of_row w g j cur 50 (0, 0) hg).trans (by rw [← Array.getElem?_toList]; exact hj)
    · cases hj
  refine ⟨grownCap w (n + 1) cap 50, cur.toList.take (i * 9) ++ ((Builtin.zeroCells z.cells (n + 1 - i)).toList ++ (Builtin.zeroCells z.cells (grownCap w (n + 1) cap 50 - (n + 1))).toList), fun ty => ?_, hge, hle, ?_, fun m hm => ?_⟩
  · have h := Lib.run_append_grow_zeros (P := Try.prog) w 23 3 ty 50 i0 _ .i64 .i64 Try.underlying23 Try.underlying3 hi0 hz0 (some ⟨g, 0, none⟩) i cap (cur.toList.take (i * 9)) hold (n + 1 - i) (by omega) (by omega) (by omega) (by omega) (by rw [hz2]; omega) (by
      rw [hz2]
      have := nextslicecap_le (need := i + (n + 1 - i)) (old := cap) (by omega)
      omega)
    rw [show i + (n + 1 - i) = n + 1 by omega, show ((n + 1 - i : Nat) : Int) = (n : Int) + 1 - (i : Int) by omega] at h
    rw [h, arr3]
  · simp only [List.length_append, hl, Array.length_toList, size_zeroCells, hzc]
    omega
  · rw [List.getElem?_append_left (by omega), List.getElem?_take, if_pos hm]

set_option maxRecDepth 100000 in
set_option maxHeartbeats 2000000 in
theorem insert_any (v : Value) (xs : List Fl) (i : Nat) (f : Fl) (vb base : Nat) (w : World) (hown : w.ownsRow base 50 9 v xs.length (xs.flatMap encF)) (hi : i ≤ xs.length) (hsz : xs.length ≤ 1000000)
    (hv : Var w vb (encF f).toArray 50) (hne : some vb ≠ v.ownBlock) (hbase : base ≤ w.heap.size) :
    Calls Try.prog 54 #[v, .int .i64 i, .slice (some ⟨vb, 0, none⟩) 1 1] w fun e w' =>
      ∃ ao' c', e = .returned (.slice ao' (insS xs i f).length c') ∧ At w' encF 9 ao' c' (insS xs i f) ∧ (∀ b, ao' = some b → base ≤ b.block) ∧ Below base w w' := by
  have hatv : At w encF 9 (some ⟨vb, 0, none⟩) 1 [f] := at_of_row hv rfl (Nat.le_refl _) (by simp [maxLen]) (fun m u h => by simpa using h)
  by_cases hin : i = xs.length
  · subst hin
    have hz0 : ((xs.length : Int) == (xs.length : Int)) = true := by simp
    rcases hown.2 with ⟨rfl, h0⟩ | ⟨g, cap, cur, rfl, hb, hg, hnc, hcm, hcs, htake⟩
    · have hx : xs = [] := List.eq_nil_of_length_eq_zero h0
      subst hx
      have hown0 := World.ownsRow_nil w base 50 9
      go_enter Try.func54, Try.ntmps54
      go_wp2_with (at_builtin; refine wpList_append_at _ rfl (.tmp 23) (.tmp 24) 23 rfl encF 9 encF_len encF_one base 50 _ 88 Try.underlying23 Try.infoFile rfl (by decide) _ ([] : List Fl) rfl hown0 _ _ _ [f] rfl rfl hatv (by simp only [List.length_cons, List.length_nil]; omega) (by simp only [List.length_cons, List.length_nil, maxLen]; omega) hbase ?_; intro v' w2 hown2 hgrow2)
      go_ret
      obtain ⟨ao', c', hv', hat', hbb⟩ := at_of_own' encF_len hown2 rfl
      exact ⟨ao', c', by rw [hv', insS]; rfl, by rw [insS]; exact hat', hbb, grown_below hgrow2 hbase fun k hk => (hown0.lt k hk).1⟩
    · by_cases hcap : cap = xs.length
      · subst hcap
        go_enter Try.func54, Try.ntmps54
        go_wp2_with (at_builtin; refine wpList_append_at _ rfl (.tmp 23) (.tmp 24) 23 rfl encF 9 encF_len encF_one base 50 _ 88 Try.underlying23 Try.infoFile rfl (by decide) _ xs rfl hown _ _ _ [f] rfl rfl hatv (by simp only [List.length_cons, List.length_nil]; omega) (by simp only [List.length_cons, List.length_nil, maxLen]; omega) hbase ?_; intro v' w2 hown2 hgrow2)
        go_ret
        obtain ⟨ao', c', hv', hat', hbb⟩ := at_of_own' encF_len hown2 rfl
        rw [insS_end]
        exact ⟨ao', c', by rw [hv']; rfl, hat', hbb, grown_below hgrow2 hbase fun k hk => (hown.lt k hk).1⟩
      · have hcap2 : ¬ (xs.length = cap) := fun h => hcap h.symm
        go_enter Try.func54, Try.ntmps54
        go_wp2_with (at_builtin; refine wpList_append_at _ rfl (.tmp 23) (.tmp 24) 23 rfl encF 9 encF_len encF_one base 50 _ 88 Try.underlying23 Try.infoFile rfl (by decide) _ xs rfl hown _ _ _ [f] rfl rfl hatv (by simp only [List.length_cons, List.length_nil]; omega) (by simp only [List.length_cons, List.length_nil, maxLen]; omega) hbase ?_; intro v' w2 hown2 hgrow2)
        go_ret
        obtain ⟨ao', c', hv', hat', hbb⟩ := at_of_own' encF_len hown2 rfl
        rw [insS_end]
        exact ⟨ao', c', by rw [hv']; rfl, hat', hbb, grown_below hgrow2 hbase fun k hk => (hown.lt k hk).1⟩
  · rcases hown.2 with ⟨rfl, h0⟩ | ⟨g, cap, cur, rfl, hb, hg, hnc, hcm, hcs, htake⟩
    · omega
    · have hz0 : ((i : Int) == (xs.length : Int)) = false := by simp; omega
      have hvb : vb ≠ g := fun e => hne (by rw [e]; rfl)
      by_cases hroom : xs.length + 1 ≤ cap
      · have hr0 : decide ((cap : Int) < (xs.length : Int) + 1) = false := by simp; omega
        have hov : ∀ lb cb, (callFunc 67 #[.slice (some ⟨vb, 0, none⟩) 1 1, .slice (some ⟨g, (i + 1) * 9, none⟩) lb cb]).run Try.prog w = .ok (.value (.bool false)) w := fun lb cb => by
          rw [run_callFunc_extern Try.func67 (by kernel_rfl) (by kernel_rfl) (by kernel_rfl) (e := Extern.SlicesOverlaps.overlaps #[23, 23] #[4]) (by kernel_rfl),
            Lib.run_overlaps_apart w 23 4 50 Try.underlying23 9 Try.sizeOf50 ⟨vb, 0, none⟩ ⟨g, (i + 1) * 9, none⟩ 1 1 lb cb hvb 50 50 9 (cap * 9) (by simp only [World.shape?]; rw [hv]; rfl) (by simp only [World.shape?]; rw [hg]; simp [hcs]) (by omega) (hv.free 0) (hv.free 9)]
          rfl
        have lD : ((xs.drop i).flatMap encF).length = (xs.length - i) * 9 := by rw [flat_length encF 9 encF_len, List.length_drop]
        have hn1 : ((xs.drop i).flatMap encF).length = Nat.min (xs.length + 1 - i) (xs.length - i) * 9 := by rw [lD, show Nat.min (xs.length + 1 - i) (xs.length - i) = xs.length - i by show min _ _ = _; omega]
        have hsrc1 : ∀ (j : Nat) (u : Value), ((xs.drop i).flatMap encF)[j]? = some u → w.cell? ((⟨g, i * 9, none⟩ : Addr).add j) = some u := by
          intro j u hj
          rw [Addr.add_lit, cell_of_row w g _ cur 50 (0, 0) hg, ← Array.getElem?_toList]
          rw [← flat_drop xs i hi, List.getElem?_drop, ← htake, List.getElem?_take] at hj
          split at hj
          · exact hj
          · cases hj
        have hfit1 : (i + 1) * 9 + ((xs.drop i).flatMap encF).length ≤ cur.toList.length := by rw [lD]; simp; omega
        have h1D : ∀ v ∈ (xs.drop i).flatMap encF, v.oneCell' = true := by
          intro v hv
          obtain ⟨x, _, hx⟩ := List.mem_flatMap.1 hv
          exact encF_one x v hx
        have hg' : w.heap[g]? = some (.cells cur.toList.toArray 50 (0, 0)) := by simpa using hg
        have hi1 : ¬ (cap = i) := by omega
        have hi2 : ¬ (cap = i + 1) := by omega
        go_enter Try.func54, Try.ntmps54
        go_wp2_with (simp only [hov])
        have ha0 : (0 : Int) ≤ (i : Int) + 1 := by omega
        have ha1 : (i : Int) + 1 ≤ (xs.length : Int) + 1 := by omega
        have ha2 : (0 : Int) ≤ (i : Int) := by omega
        have ha3 : (i : Int) ≤ (xs.length : Int) + 1 := by omega
        have htn : ((i : Int) + 1).toNat = i + 1 := by omega
        have hwr : IntKind.i64.wrap ((i : Int) + 1) = (i : Int) + 1 := IntWalk.i64_in _ (by omega)
        go_region_law (refine step_copy_wide (P := Try.prog) rfl (.tmp 73) (.tmp 76) 23 23 rfl 50 9 Try.underlying23 Try.sizeFile g ((i + 1) * 9) (xs.length - i) (cap - (i + 1)) ⟨g, i * 9, none⟩ (xs.length + 1 - i) (cap - i) (by simp [Act.eval, Act.put]) (by simp [Act.eval, Act.put]) cur.toList 50 hg' ((xs.drop i).flatMap encF) hn1 hsrc1 hfit1 h1D ?_; intro w4 hg4 hgr4)
        clear hwr htn ha0 ha1 hov hsrc1 hn1
        have hv4 : Var w4 vb (encF f).toArray 50 := Var.grown' (w := w.drew) hv hgr4 (by simpa using hvb)
        have l4 : (splice cur.toList ((i + 1) * 9) ((xs.drop i).flatMap encF)).length = cap * 9 := by rw [length_splice _ _ _ hfit1]; simpa using hcs
        have hfit2 : i * 9 + (encF f).length ≤ (splice cur.toList ((i + 1) * 9) ((xs.drop i).flatMap encF)).length := by rw [l4, encF_len]; omega
        have hsrc2 : ∀ (j : Nat) (u : Value), (encF f)[j]? = some u → w4.cell? ((⟨vb, 0, none⟩ : Addr).add j) = some u := by
          intro j u hj
          rw [Addr.add_lit, Nat.zero_add, hv4.cell]
          simpa using hj
        have hn2 : (encF f).length = Nat.min 1 (xs.length + 1 - i) * 9 := by rw [encF_len, show Nat.min 1 (xs.length + 1 - i) = 1 by show min _ _ = _; omega]
        have HR : Hid (∀ (m : Nat) (u : Value), ((insS xs i f).flatMap encF)[m]? = some u → (splice (splice cur.toList ((i + 1) * 9) ((xs.drop i).flatMap encF)) (i * 9) (encF f))[m]? = some u) := Lib.hid fun m u hm =>
          (row_ins cur.toList xs i f hi (fun m hm u hu => by
            rw [← flat_take xs i hi, ← htake, List.take_take, List.getElem?_take] at hu
            split at hu
            · exact hu
            · cases hu) (by simp; omega) m u hm).1
        obtain ⟨row, hrow⟩ : ∃ row, row = splice cur.toList ((i + 1) * 9) ((xs.drop i).flatMap encF) := ⟨_, rfl⟩
        rw [← hrow] at hg4 HR hfit2
        clear hrow l4
        go_wp2_with (with_reducible refine wpList_copy_wide (P := Try.prog) (o := ⟨some 82, _, _, _, _, _⟩) rfl (.tmp 80) (.tmp 81) 23 23 rfl 50 9 Try.underlying23 Try.sizeFile g (i * 9) (xs.length + 1 - i) (cap - i) ⟨vb, 0, none⟩ 1 1 (by simp [Act.eval]) (by simp [Act.eval]) row 50 hg4.out (encF f) hn2 hsrc2 hfit2 (encF_one f) ?_; intro w5 hg5 hgr5)
        go_ret
        have hlen : (insS xs i f).length = xs.length + 1 := by simp [insS]; omega
        rw [hlen]
        refine ⟨_, _, rfl, at_of_row hg5.out hlen hroom hcm HR.out, fun b hb' => by cases hb'; exact hb, ?_⟩
        have hq1 := grown_below hgr4 (show base ≤ w.drew.heap.size from hbase) (fun k hk => by cases hk; exact hb)
        exact (Below.refl base w).drew.trans (hq1.trans (grown_below hgr5 (Nat.le_trans hbase hq1.size) (fun k hk => by cases hk; exact hb)))
      · obtain ⟨gc, row, happ, hgc, hgm, hrl, hrow⟩ := grow_row w g xs.length i cap cur hg hcs (by omega) hnc (by omega) hsz
        have hr0 : decide ((cap : Int) < (xs.length : Int) + 1) = true := by simp; omega
        have lD : ((xs.drop i).flatMap encF).length = (xs.length - i) * 9 := by rw [flat_length encF 9 encF_len, List.length_drop]
        have h1D : ∀ v ∈ (xs.drop i).flatMap encF, v.oneCell' = true := by
          intro v hv
          obtain ⟨x, _, hx⟩ := List.mem_flatMap.1 hv
          exact encF_one x v hx
        have hi1 : ¬ (cap = i) := by omega
        have hi2 : ¬ (gc = i) := by omega
        have hi3 : ¬ (gc = i + 1) := by omega
        have hglt : g < w.heap.size := (Array.getElem?_eq_some_iff.1 hg).1
        have hvlt : vb < w.heap.size := hv.lt
        have HR : Hid (∀ (m : Nat) (u : Value), ((insS xs i f).flatMap encF)[m]? = some u → (splice (splice row (i * 9) (encF f)) ((i + 1) * 9) ((xs.drop i).flatMap encF))[m]? = some u) := Lib.hid fun m u hm =>
          (row_ins row xs i f hi (fun m hm u hu => by
            rw [hrow m hm]
            rw [← flat_take xs i hi, ← htake, List.take_take, List.getElem?_take] at hu
            split at hu
            · exact hu
            · cases hu) (by omega) m u hm).2
        have HROW := Lib.hid hrow
        clear hrow
        obtain ⟨W1, hW1⟩ : ∃ W1, W1 = w.drew.alloc (.cells row.toArray 50) := ⟨_, rfl⟩
        have hg1 : W1.heap[w.heap.size]? = some (.cells row.toArray 50 (0, 0)) := by rw [hW1]; exact heap_alloc_new w.drew _
        have hb1 : Below w.heap.size w W1 := by rw [hW1]; exact bal (bdr (Below.refl _ _)) _
        have hs1 : W1.heap.size = w.heap.size + 1 := by rw [hW1]; simp
        have hv1 := hv.below hb1
        rw [← hW1] at happ
        clear hW1
        have hfit1 : i * 9 + (encF f).length ≤ row.length := by rw [hrl, encF_len]; omega
        have hsrc1 : ∀ (j : Nat) (u : Value), (encF f)[j]? = some u → W1.cell? ((⟨vb, 0, none⟩ : Addr).add j) = some u := by
          intro j u hj
          rw [Addr.add_lit, Nat.zero_add, hv1.cell]
          simpa using hj
        have hn1 : (encF f).length = Nat.min 1 (xs.length + 1 - i) * 9 := by rw [encF_len, show Nat.min 1 (xs.length + 1 - i) = 1 by show min _ _ = _; omega]
        go_enter Try.func54, Try.ntmps54
        go_wp2_with (first
          | (with_reducible refine Lib.wpList_append_run (P := Try.prog) _ (o := ⟨some 40, _, _, _, _, _⟩) rfl (.tmp 34) (.tmp 39) 23 3 rfl (.slice (some ⟨g, 0, none⟩) i cap) (.int .i64 ((xs.length : Int) + 1 - (i : Int))) (by simp [Act.eval]) (by simp [Act.eval]) _ _ (happ _) ?_)
          | (with_reducible refine wpList_copy_wide (P := Try.prog) (o := ⟨some 45, _, _, _, _, _⟩) rfl (.tmp 43) (.tmp 44) 23 23 rfl 50 9 Try.underlying23 Try.sizeFile w.heap.size (i * 9) (xs.length + 1 - i) (gc - i) ⟨vb, 0, none⟩ 1 1 (by simp [Act.eval]) (by simp [Act.eval]) row 50 hg1 (encF f) hn1 hsrc1 hfit1 (encF_one f) ?_; intro w4 hg4 hgr4))
        have hb4 : Below w.heap.size w w4 := hb1.grown hgr4 (by omega) (fun k hk => by cases hk; exact Nat.le_refl _)
        have hg4' : w4.heap[g]? = some (.cells cur 50 (0, 0)) := (hb4.block g hglt).trans hg
        have hsrc4 : ∀ (j : Nat) (u : Value), ((xs.drop i).flatMap encF)[j]? = some u → w4.cell? ((⟨g, i * 9, none⟩ : Addr).add j) = some u := by
          intro j u hj
          rw [Addr.add_lit, cell_of_row w4 g _ cur 50 (0, 0) hg4', ← Array.getElem?_toList]
          rw [← flat_drop xs i hi, List.getElem?_drop, ← htake, List.getElem?_take] at hj
          split at hj
          · exact hj
          · cases hj
        have l4 : (splice row (i * 9) (encF f)).length = gc * 9 := by rw [length_splice _ _ _ hfit1, hrl]
        have hfit4 : (i + 1) * 9 + ((xs.drop i).flatMap encF).length ≤ (splice row (i * 9) (encF f)).length := by rw [l4, lD]; omega
        have hn4 : ((xs.drop i).flatMap encF).length = Nat.min (xs.length - i) (xs.length - i) * 9 := by rw [lD, show Nat.min (xs.length - i) (xs.length - i) = xs.length - i from Nat.min_self _]
        obtain ⟨row2, hrow2⟩ : ∃ row2, row2 = splice row (i * 9) (encF f) := ⟨_, rfl⟩
        rw [← hrow2] at hg4 HR hfit4
        clear hrow2 l4 happ hsrc1 hn1 hg1 hgr4
        have ha0 : (0 : Int) ≤ (i : Int) + 1 := by omega
        have ha1 : (i : Int) + 1 ≤ (xs.length : Int) + 1 := by omega
        have ha2 : (0 : Int) ≤ (i : Int) := by omega
        have ha3 : (i : Int) ≤ (xs.length : Int) := by omega
        have hsz4 : w.drew.heap.size ≤ w4.drew.heap.size := hb4.size
        have htn : ((i : Int) + 1).toNat = i + 1 := by omega
        have hwr : IntKind.i64.wrap ((i : Int) + 1) = (i : Int) + 1 := IntWalk.i64_in _ (by omega)
        go_region_law (refine step_copy_wide (P := Try.prog) rfl (.tmp 50) (.tmp 53) 23 23 rfl 50 9 Try.underlying23 Try.sizeFile w.heap.size ((i + 1) * 9) (xs.length - i) (gc - (i + 1)) ⟨g, i * 9, none⟩ (xs.length - i) (cap - i) (by simp [Act.eval, Act.put]) (by simp [Act.eval, Act.put]) row2 50 hg4.out ((xs.drop i).flatMap encF) hn4 hsrc4 hfit4 h1D ?_; intro w5 hg5 hgr5)
        clear hwr htn ha0 ha1
        go_wp2
        go_ret
        have hlen : (insS xs i f).length = xs.length + 1 := by simp [insS]; omega
        rw [hlen]
        refine ⟨_, _, rfl, at_of_row hg5.out hlen hgc hgm HR.out, fun b hb' => by cases hb'; exact hbase, ?_⟩
        exact ((hb4.drew).grown hgr5 hb4.size (fun k hk => by cases hk; exact Nat.le_refl _)).mono hbase

end Go.Proofs.Ytjeanhaadbkncaa
