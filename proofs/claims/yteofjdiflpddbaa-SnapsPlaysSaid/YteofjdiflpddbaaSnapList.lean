/- The walk of List: the numbers that are held, rising, each once. -/
import Derived.Test.YteofjdiflpddbaaSnap
import Derived.Test.YteofjdiflpddbaaCompactU
import Derived.Maps.RangeWalk
import Derived.Sort.OwnSorted
import Derived.Laws.CopyOwn
import Derived.Laws.MakeOwn
import Derived.Deep.Cut
namespace Go.Proofs.Yteofjdiflpddbaa
open Go.Proofs Go.RowKit Go.Maps

theorem own_len {w : World} {base e k n m : Nat} {v : Value} {xs : List Value} (h : w.ownsRow base e k v n xs) (hn : n = m) : w.ownsRow base e k v m xs := hn ▸ h

/-- The numbers that are told. -/
def listS (S : List (Int × Int)) : List Int := Lib.compact (risen (S.map (·.2)))
theorem listS_le (S : List (Int × Int)) : (listS S).length ≤ S.length := by
  have := compact_le (risen (S.map (·.2)))
  rw [risen_length, List.length_map] at this
  exact this

/-- ids: those that are no longer to come. -/
def CollI (D : DataW Unit) (left : Lit → Bool) (ids : List Int) : Prop := ids.Nodup ∧ ∀ x : Int, x ∈ ids ↔ (Maps.has D (.int .i64 x) = true ∧ left (.int .i64 x) = false)
theorem CollI.start (D : DataW Unit) : CollI D (Maps.has D) [] := ⟨List.nodup_nil, fun x => by cases Maps.has D (.int .i64 x) <;> simp⟩
theorem CollI.step {D : DataW Unit} {left : Lit → Bool} {ids : List Int} (h : CollI D left ids) {x c : Int} (hl : left (.int .i64 x) = true) (hat : ∀ zd, D.atKey (.int .i64 x) zd = .lit (.int .u64 c)) : CollI D (fun z => left z && !z.sameKey (.int .i64 x)) (ids ++ [x]) := by
  have hhas : Maps.has D (.int .i64 x) = true := has_true_of_atKey hat
  have hnew : x ∉ ids := fun hx => by have := ((h.2 x).1 hx).2; rw [hl] at this; cases this
  refine ⟨List.nodup_append.2 ⟨h.1, by simp, fun a ha b hb => by simp at hb; subst hb; exact fun e => hnew (e ▸ ha)⟩, fun y => ?_⟩
  by_cases hy : y = x
  · subst hy; simp [hhas, Lit.sameKey]
  · simp [h.2 y, hy, Lit.sameKey]
theorem seqS_mem {S : List (Int × Int)} (hnd : (S.map (·.1)).Nodup) {p : Int × Int} (hp : p ∈ S) : seqS S p.1 = some p.2 := by
  unfold seqS
  induction S with
  | nil => cases hp
  | cons q S ih =>
    rw [List.map_cons, List.nodup_cons] at hnd
    rw [List.find?_cons]
    rcases List.mem_cons.1 hp with rfl | hp
    · simp
    · have hne : (q.1 == p.1) = false := by
        simp only [beq_eq_false_iff_ne]
        intro e
        exact hnd.1 (by rw [e]; exact List.mem_map_of_mem hp)
      rw [hne]
      exact ih hnd.2 hp
theorem coll_perm {S : List (Int × Int)} (hnd : (S.map (·.1)).Nodup) {ids : List Int} (hn : ids.Nodup) (h : ∀ x, x ∈ ids ↔ S.any (fun p => p.1 == x) = true) : (ids.map fun x => (seqS S x).getD 0).Perm (S.map (·.2)) := by
  have hp : ids.Perm (S.map (·.1)) := by
    refine (List.perm_ext_iff_of_nodup hn hnd).2 fun x => ?_
    rw [h x, List.any_eq_true, List.mem_map]
    constructor
    · rintro ⟨p, hp, e⟩; exact ⟨p, hp, by simpa using e⟩
    · rintro ⟨p, hp, e⟩; exact ⟨p, hp, by simpa using e⟩
  refine (hp.map _).trans ?_
  rw [List.map_map]
  refine List.Perm.of_eq (List.map_congr_left fun p hp => ?_)
  simp [seqS_mem hnd hp]
theorem risen_perm {xs ys : List Int} (h : xs.Perm ys) : risen xs = risen ys := by
  have tr : ∀ a b c : Int, decide (a ≤ b) = true → decide (b ≤ c) = true → decide (a ≤ c) = true := fun a b c h1 h2 => by simp at *; omega
  have to : ∀ a b : Int, (decide (a ≤ b) || decide (b ≤ a)) = true := fun a b => by simp; omega
  refine List.Perm.eq_of_pairwise (le := fun a b => decide (a ≤ b) = true) (fun a b _ _ h1 h2 => by simp at h1 h2; omega) (List.pairwise_mergeSort tr to xs) (List.pairwise_mergeSort tr to ys) ?_
  exact ((List.mergeSort_perm xs _).trans h).trans (List.mergeSort_perm ys _).symm

theorem listNil_any (w : World) : Calls Try.prog 15 #[.pointer none] w fun e w' => e = .returned (.slice none 0 0) ∧ w' = w := by
  go_enter Try.func15, Try.ntmps15
  go_wp2
  go_ret
  exact ⟨rfl, rfl⟩

theorem Try.sizeNum : (Try.prog.info? 30).map (·.size) = some 1 := by
  obtain ⟨i, hi, hz0, hz1, hz2⟩ := info_parts Try.infoNum
  rw [hi, Option.map_some, hz1]
/-- What a copy reads. -/
theorem copy_src {w w' : World} {ao : Option Addr} {c : Nat} {xs : List Int} (h : At w encN 1 ao c xs) (hb : Below w.heap.size w w') (hpos : 0 < (xs.map (Value.int .u64)).length) : ∃ ad, ao = some ad ∧ ∀ (j : Nat) (v : Value), (xs.map (Value.int .u64))[j]? = some v → w'.cell? (ad.add j) = some v := by
  have h' := h.below hb
  obtain ⟨x, hx⟩ : ∃ x, xs[0]? = some x := ⟨_, List.getElem?_eq_getElem (by simpa using hpos)⟩
  obtain ⟨b, off, hao, _, _⟩ := h'.cells 0 x hx
  refine ⟨_, hao, fun j v hv => ?_⟩
  rw [List.getElem?_map, Option.map_eq_some_iff] at hv
  obtain ⟨y, hy, rfl⟩ := hv
  obtain ⟨b2, off2, hao2, _, hc⟩ := h'.cells j y hy
  rw [hao] at hao2
  cases hao2
  have := hc 0 _ rfl
  rw [Nat.mul_one, Nat.add_zero] at this
  rw [Addr.add_lit]
  exact this

set_option maxRecDepth 100000 in
set_option maxHeartbeats 1000000 in
theorem list_any (sb mb : Nat) (S : List (Int × Int)) (tk : Int) (w : World) (hs : SetV w sb mb S tk) (hnd : (S.map (·.1)).Nodup) (hlen : S.length ≤ 1000000) :
    Calls Try.prog 15 #[.pointer (some ⟨sb, 0, none⟩)] w fun e w' => ∃ v, e = .returned v ∧ w'.ownsRow w.heap.size 30 1 v (listS S).length ((listS S).flatMap encN) ∧ Below w.heap.size w w' := by
  have c0 := hs.var.cell 0
  obtain ⟨D, hD1, hD2, hD3, hD4⟩ := hs.held
  have hml := hs.held.lt
  have HD1 := Lib.hid hD1
  have HD2 := Lib.hid hD2
  have HD3 := Lib.hid hD3
  have HD4 := Lib.hid hD4
  have HND := Lib.hid hnd
  clear hs hD1 hD2 hD3 hD4 hnd
  go_enter Try.func15, Try.ntmps15
  go_wp2_with (at_range; refine wpList_range_own _ rfl _ 47 rfl 3 30 ids_keyed Try.underlying47 (plainElem Try.prog 30) mb S.length D rfl HD1.out ?_; intro w0 hrg0 hg0 hs0)
  go_frame
  go_loopw [3, 5] (fun v _ wr => ∃ (left : Lit → Bool) (cnt : Nat) (ids : List Int), wr.ranges Try.prog 3 (plainElem Try.prog 30) mb w.heap.size S.length D left cnt ∧ ids.length + cnt ≤ S.length ∧ Hid (CollI D left ids) ∧
      wr.ownsRow w.heap.size 30 1 v (ids.map fun x => (seqS S x).getD 0).length ((ids.map fun x => (seqS S x).getD 0).flatMap encN) ∧ Below w.heap.size w wr) (fun _ _ wr => wr.rangeLeft mb w.heap.size)
  case atStart => exact ⟨_, _, [], hrg0, by have := HD4.out; simp; omega, Lib.hid (CollI.start D), World.ownsRow_nil _ _ _ _, (Below.refl _ _).grown hg0 (Nat.le_refl _) (fun j hj => by cases hj)⟩
  case round =>
    obtain ⟨left, cnt, ids, hrg, hcs, hC, hown, hb⟩ := hrel
    go_wp2_with (at_next; refine wpList_next_ranges_ii _ rfl _ rfl 3 30 .i64 .u64 ids_keyed Try.underlying3 Try.underlying30 mb w.heap.size S.length _ _ _ rfl hrg ?_ ?_)
    · intro hc0 hl0
      obtain ⟨zs, hzs⟩ : ∃ zs, zs = ids.map fun x => (seqS S x).getD 0 := ⟨_, rfl⟩
      rw [← hzs] at hown
      have hls : Lib.compact (risen zs) = listS S := by
        unfold listS
        rw [hzs, risen_perm (coll_perm HND.out hC.out.1 fun x => by rw [hC.out.2 x, hl0, HD2.out x]; simp)]
      have hzl : zs.length ≤ S.length := by rw [hzs, List.length_map]; omega
      have HLS := Lib.hid hls
      have hll := listS_le S
      have hmk : ∀ w, (Instr.makeSlice 39 (.int .i64 ((listS S).length : Int)) (.int .i64 ((listS S).length : Int))).run Try.prog w = .ok (.slice (some ⟨w.heap.size, 0, none⟩) (listS S).length (listS S).length) (w.alloc (.cells (madeCells #[.int .u64 0] (listS S).length) 30)) := by
        intro w
        obtain ⟨i, hi, hz0, hz1, hz2⟩ := info_parts Try.infoNum
        have := run_makeSlice (P := Try.prog) w 39 30 i _ Try.underlying39 hi hz0 .i64 .i64 ((listS S).length : Int) ((listS S).length : Int) (by omega) (by omega) (by rw [hz1]; omega) (by rw [hz2]; omega) (by omega)
        rw [hz1, Nat.mul_one, Int.toNat_natCast] at this
        exact this
      clear hzs hC hls hc0 hl0 hcs hrg
      go_upto_region 11 with (first
        | (go_at_call 18; refine (sortOwn_any _ zs w.heap.size _ hown (by omega)).mono ?_; rintro e w2 ⟨rfl, hown2, hg2⟩; have hb2 := bgr hb hown hg2)
        | (go_at_call 19; refine (compactOwn_any _ (risen zs) w.heap.size _ (own_len hown2 (risen_length zs).symm) (by rw [risen_length]; omega)).mono ?_; rw [HLS.out]; rintro e w3 ⟨v3, rfl, hown3, hg3⟩; have hb3 := bgr hb2 (own_len hown2 (risen_length zs).symm) hg3; obtain ⟨ao3, c3, rfl, hat3⟩ := at_of_own encN_len hown3 rfl))
      have hgc : Hid ((w3.alloc (.cells (madeCells #[.int .u64 0] (listS S).length) 30)).heap[w3.heap.size]? = some (.cells (madeCells #[.int .u64 0] (listS S).length).toList.toArray 30 (0, 0))) := Lib.hid (by rw [Array.toArray_toList]; exact heap_alloc_new _ _)
      obtain ⟨cs, hcs⟩ : ∃ cs, cs = (listS S).map (Value.int .u64) := ⟨_, rfl⟩
      have hn : cs.length = Nat.min (listS S).length (listS S).length := by rw [hcs]; simp
      have hpos : 0 < cs.length → (some (⟨w3.heap.size, 0, none⟩ : Addr)) = some ⟨w3.heap.size, 0, none⟩ ∧ ∃ ad, ao3 = some ad ∧ ∀ (j : Nat) (v : Value), cs[j]? = some v → (w3.alloc (.cells (madeCells #[.int .u64 0] (listS S).length) 30)).cell? (ad.add j) = some v := by
        rw [hcs]; exact fun hpos => ⟨rfl, copy_src hat3 (bal (Below.refl _ _) _) hpos⟩
      have hfit : 0 + cs.length ≤ (madeCells #[.int .u64 0] (listS S).length).toList.length := by rw [hcs]; simp [madeCells]
      have hone : ∀ v ∈ cs, v.oneCell' = true := by rw [hcs]; intro v hv; obtain ⟨a, _, rfl⟩ := List.mem_map.1 hv; rfl
      have hb4 := bal hb3 (.cells (madeCells #[.int .u64 0] (listS S).length) 30)
      have hsz3 := hb3.size
      have HCS := Lib.hid hcs
      have HN := Lib.hid hn
      have HPOS := Lib.hid hpos
      have HFIT := Lib.hid hfit
      have HONE := Lib.hid hone
      clear hcs hn hpos hfit hone
      go_wp2_with (with_reducible refine wpList_copy_splice (P := Try.prog) (o := ⟨some 31, _, _, _, _, _⟩) rfl (.tmp 29) (.tmp 30) 39 39 rfl 30 Try.underlying39 Try.sizeNum (some ⟨w3.heap.size, 0, none⟩) ao3 (listS S).length (listS S).length (listS S).length c3 (by simp [Act.eval]) (by simp [Act.eval]) w3.heap.size 0 (madeCells #[.int .u64 0] (listS S).length).toList 30 hgc.out cs HN.out HPOS.out HFIT.out HONE.out w.heap.size w hb4 hsz3 ?_; intro w5 hw5 hb5)
      go_ret
      have hw6 := hw5.out
      rw [HCS.out] at hw6
      refine ⟨_, rfl, ⟨by simp [encN_flat], .inr ⟨w3.heap.size, (listS S).length, _, rfl, hb3.size, hw6, Nat.le_refl _, by unfold maxLen; omega, by simp [splice, madeCells], ?_⟩⟩, hb5⟩
      rw [Nat.mul_one, encN_flat]
      simp [splice]
    · intro x c w1 cnt1 hwx hwc hlx hat hrg1 hlt hg1 hs1 hen
      have hown1 := hown.kept hg1 (.inr fun e => row_ne_iter hown hrg e.symm)
      have hcx : (seqS S x).getD 0 = c := by
        have hh := has_true_of_atKey hat
        rw [HD2.out x, List.any_eq_true] at hh
        obtain ⟨p, hp, hpe⟩ := hh
        have hpe' : p.1 = x := by simpa using hpe
        have h1 := HD3.out p hp (.lit (.bool true))
        rw [hpe', hat] at h1
        cases h1
        rw [← hpe', seqS_mem HND.out hp]
        rfl
      have HCX := Lib.hid hcx
      have hb1 := hb.grown hg1 hb.size (fun j hj => by cases hj; exact Nat.le_refl _)
      have HAT := Lib.hid hat
      clear hcx hat hs1
      go_wp2_with (at_builtin; go_loud (refine wpList_append_at _ rfl (.tmp 18) (.tmp 20) 39 rfl encN 1 encN_len encN_one w.heap.size 30 _ 8 Try.underlying39 Try.infoNum rfl (by decide) _ (ids.map fun x => (seqS S x).getD 0) rfl (hown1.alloc _) _ _ _ [c] rfl rfl (at_oneN _ _ c (by first | rfl | simp)) (by rw [List.length_map]; show (ids.length + 1) * 8 ≤ _; omega) (by rw [List.length_map]; unfold maxLen; show ids.length + 1 ≤ _; omega) (Nat.le_trans hb1.size (by simp)) ?_); intro v' w2 hown2 hgrow2; go_frame)
      have hrg2 := (hrg1.alloc _).kept hgrow2 (row_ne_low hown1 hml) (row_ne_iter hown1 hrg1)
      have hb2 := bgr (bal hb1 _) (hown1.alloc _) hgrow2
      go_roundw
      case rel =>
        refine ⟨_, cnt1, ids ++ [x], hrg2, by simp; omega, Lib.hid (hC.out.step hlx HAT.out), ?_, hb2⟩
        rw [List.map_append]
        simp only [List.map_cons, List.map_nil, HCX.out]
        exact hown2
      case measure => rw [hrg2.left_eq, hrg.left_eq]; exact hlt

end Go.Proofs.Yteofjdiflpddbaa
