/- The walk of drop: a file taken away. -/
import Derived.Test.YtjeanhaadbkncaaPut
namespace Go.Proofs.Ytjeanhaadbkncaa
open Go.RowKit

theorem step_append_at {P : Program} {ops : Array Oper} {o : Oper} {a : Act} {w : World} {K : Act → World → Prop} {Q : Exit → Act → World → Prop} {E : Prop} (hgd : o.guard = none) (s x : Operand) (t : TypeId)
    (ho : o.op = .call { callee := .builtin .append, args := #[s, x], argTypes := #[t, t] })
    {α : Type} (enc : α → List Value) (k : Nat) (henc : ∀ x, (enc x).length = k) (h1 : ∀ x, ∀ u ∈ enc x, u.oneCell' = true)
    (base : Nat) (e : TypeId) (z : Value) (bytes : Nat) (ht : P.underlying t = some (.slice e)) (hinfo : (P.info? e).map (fun i => (i.zero, i.size, i.bytes)) = some (some z, k, bytes)) (hz : z.cells.size = k) (hk : 0 < k)
    (v : Value) (xs : List α) (hs : a.eval s = v) (hown : w.ownsRow base e k v xs.length (xs.flatMap enc))
    (ad : Addr) (m c : Nat) (ys : List α) (hx : a.eval x = .slice (some ad) m c) (hm : m = ys.length) (hat : At w enc k (some ad) c ys)
    (hlen : (xs.length + ys.length) * bytes ≤ 140737488355328) (hmax : xs.length + ys.length ≤ maxLen) (hbase : base ≤ w.heap.size)
    (h : ∀ v' w', w'.ownsRow base e k v' (xs ++ ys).length ((xs ++ ys).flatMap enc) → w.grownBy w' v.ownBlock → K (a.put o.dst v') w') :
    if Region.wanted o (yielded ops a.tmps) = true then Oper.wp P o a w K Q else E := by
  have hw : Region.wanted o (yielded ops a.tmps) = true := by simp [Region.wanted, hgd]
  rw [if_pos hw]
  obtain ⟨i, hi, hz0, hz1, hz2⟩ := info_parts hinfo
  subst hm
  refine wp_append_own w s x t ho base e i z k bytes ht hi hz0 hz1 hz2 hz hk v _ _ hs hown ad ys.length c (ys.flatMap enc) hx (flat_length enc k henc ys) (hat.flat henc ad rfl) ?_ hmax hlen hbase ?_
  · intro u hu
    obtain ⟨y, _, hy⟩ := List.mem_flatMap.1 hu
    exact h1 y u hy
  · intro v' w' h2 h3 _
    refine h v' w' ?_ h3
    rw [List.flatMap_append, List.length_append]
    exact h2

/-- The part of a list behind a place. -/
theorem At.drop {α : Type} {w : World} {enc : α → List Value} {k : Nat} {b off c : Nat} {xs : List α} (h : At w enc k (some ⟨b, off, none⟩) c xs) (i : Nat) (hi : i < xs.length) :
    ∃ ad : Addr, (if c = i + 1 then some (⟨b, off, none⟩ : Addr) else some ⟨b, off + (i + 1) * k, none⟩) = some ad ∧ At w enc k (some ad) (c - (i + 1)) (xs.drop (i + 1)) := by
  have hl := h.len
  have hc := h.cap
  by_cases e : c = i + 1
  · refine ⟨⟨b, off, none⟩, by rw [if_pos e], by rw [List.length_drop]; omega, by omega, by simp, fun j x hx => ?_⟩
    rw [List.getElem?_drop] at hx
    have := (List.getElem?_eq_some_iff.1 hx).1
    omega
  · refine ⟨⟨b, off + (i + 1) * k, none⟩, by rw [if_neg e], by rw [List.length_drop]; omega, by omega, by simp, fun j x hx => ?_⟩
    rw [List.getElem?_drop] at hx
    obtain ⟨b', off', hb', hlt, hcs⟩ := h.cells _ _ hx
    cases hb'
    refine ⟨b, off + (i + 1) * k, rfl, hlt, fun m u hm => ?_⟩
    have := hcs m u hm
    rwa [show off + (i + 1) * k + j * k + m = off + (i + 1 + j) * k + m by rw [Nat.add_mul (i + 1) j k]; omega]

/-- Is a file there? What is left. -/
def dropI (xs : List Fl) (num : Int) : Option Nat := xs.findIdx? (fun f => f.nu == num)
theorem drop_cases (xs : List Fl) (num : Int) : (dropI xs num = none ∧ idxS (fun f => f.nu == num) xs = -1) ∨ ∃ i, dropI xs num = some i ∧ i < xs.length ∧ idxS (fun f => f.nu == num) xs = (i : Int) := by
  unfold idxS dropI
  cases h : xs.findIdx? (fun f => f.nu == num) with
  | none => exact .inl ⟨rfl, rfl⟩
  | some i => exact .inr ⟨i, rfl, (List.findIdx?_eq_some_iff_getElem.1 h).1, rfl⟩

theorem tells_drop (gb : Nat) (num : Int) (w : World) (h1 : w.cell? ⟨gb, 1, none⟩ = some (.int .u64 num)) :
    Tells 51 (.pointer (some ⟨gb, 0, none⟩)) (fun f => f.nu == num) w := by
  intro w1 hb f
  have hlt : gb < w.heap.size := World.block_lt_of_cell? w _ h1
  exact dropIs_any f.lv f.nu f.sz f.su f.ss f.sk f.lu f.ls f.lk gb 0 num w1 ((hb.cell hlt).trans (by rw [Nat.zero_add]; exact h1))

set_option maxRecDepth 100000 in
set_option maxHeartbeats 8000000 in
theorem drop_any (sb k : Nat) (L : Nat → List Fl) (ao : Nat → Option Addr) (c : Nat → Nat) (nu : Int) (w : World) (hk : k < 4) (hs : SetAt w sb L ao c) (hsz : ∀ i, i < 4 → (L i).length ≤ 1000000) :
    Calls Try.prog 33 #[.pointer (some ⟨sb, 0, none⟩), .agg #[.int .i64 (k : Int), .int .u64 nu]] w fun e w' =>
      (dropI (L k) nu = none ∧ e = .returned (.bool false) ∧ Below w.heap.size w w') ∨
      ∃ i, dropI (L k) nu = some i ∧ e = .returned (.bool true) ∧ ∃ ao' c', SetAt w' sb (updG L k ((L k).take i ++ (L k).drop (i + 1))) ao' c' ∧ w.grownBy w' (some sb) := by
  have hcon : ∀ w1, Tells 51 (.pointer (some ⟨w.heap.size, 0, none⟩)) (fun f => f.nu == nu) w1 → At w1 encF 9 (ao k) (c k) (L k) →
      Calls Try.prog 50 #[.slice (ao k) (L k).length (c k), .func (.func 51) #[] #[.pointer (some ⟨w.heap.size, 0, none⟩)]] w1 fun e w' => e = .returned (.int .i64 (idxS (fun f => f.nu == nu) (L k))) ∧ Below w1.heap.size w1 w' := fun w1 ht hat =>
    indexFunc_any 51 _ _ (ao k) (c k) (L k) w1 hat (hsz k hk) Try.call51 ht
  have HC := Lib.hid hcon
  have hpc := drop_cases (L k) nu
  have hlen := hsz k hk
  obtain ⟨W0, hW0⟩ : ∃ W0, W0 = w.alloc (.cells #[.int .i64 (k : Int), .int .u64 nu] 52) := ⟨_, rfl⟩
  have hb0 : Below w.heap.size w W0 := by rw [hW0]; exact bal (Below.refl _ _) _
  have hv0 : Var W0 w.heap.size #[.int .i64 (k : Int), .int .u64 nu] 52 := by rw [hW0]; exact Var.new _ _ _
  have hs0 := hs.below hb0
  have HS := Lib.hid hs0
  have HT : Hid (∀ w1, Below W0.heap.size W0 w1 → Tells 51 (.pointer (some ⟨w.heap.size, 0, none⟩)) (fun f => f.nu == nu) w1) := Lib.hid fun w1 hb => tells_drop _ _ _ ((hv0.below hb).cell 1)
  have hlt0 : w.heap.size < W0.heap.size := hv0.lt
  have hsb : sb < w.heap.size := hs.var.lt
  have hsb0 : sb < W0.heap.size := by omega
  have f0 := hv0.cell 0
  have f1 := hv0.cell 1
  have sc := hs0.cell hk
  have sf := hs0.var.free k
  have hk0 : (0 : Int) ≤ (k : Int) := by omega
  have hk4 : (k : Int) < 4 := by omega
  have HW := Lib.hid hW0
  clear hcon hW0 hs hs0 hsz hv0
  go_enter Try.func33, Try.ntmps33
  go_wp2_with fail
  rw [← HW.out]
  go_region_held3 (fun wh => wh.cell? ⟨w.heap.size, 0, none⟩ = some (.int .i64 (k : Int)) ∧ wh.cell? ⟨sb, k, none⟩ = some (.slice (ao k) (L k).length (c k)) ∧ Below W0.heap.size W0 wh)
    ((go_split_ands; (repeat' apply And.intro) <;> first | (exact bdr (Below.refl _ _)) | assumption | (refine bkeep' hb9 ?_; assumption) | (refine btr ?_ hb9; assumption)))
    (first | (go_at_call 50; go_split_ands; refine (HC.out _ (HT.out _ ?_) ((HS.out.below ?_).lists k hk)).mono ?_; (first | assumption | exact bdr (Below.refl _ _)); (first | assumption | exact bdr (Below.refl _ _)); rintro e w9 ⟨rfl, hb9⟩))
  rename_i hS
  obtain ⟨-, -, hb1⟩ := hS
  have hneq : w.heap.size ≠ sb := by omega
  rcases hpc with ⟨hno, hi⟩ | ⟨i, hsome, hil, hi⟩
  · rw [hi]
    have HNO := Lib.hid hno
    clear hno
    go_wp2
    go_ret
    exact .inl ⟨HNO.out, rfl, btr hb0 hb1⟩
  · rw [hi]
    have HSO := Lib.hid hsome
    clear hsome hi
    obtain ⟨x, hx⟩ : ∃ x, (L k)[i]? = some x := ⟨_, List.getElem?_eq_getElem hil⟩
    obtain ⟨b, off, hao, -, -⟩ := (HS.out.lists k hk).cells i x hx
    clear hx
    obtain ⟨wx, hwx⟩ : ∃ wx, wx = w9 := ⟨_, rfl⟩
    have hbx : Below W0.heap.size W0 wx := by rw [hwx]; exact hb1
    rw [← hwx]
    clear hwx hb1
    have hatk := (HS.out.below hbx).lists k hk
    rw [hao] at hatk sc
    have hcl := hatk.len
    have hcm := hatk.cap
    obtain ⟨ad, had, hatd⟩ := hatk.drop i hil
    have HATT := Lib.hid (hatk.tail i)
    have HATD := Lib.hid hatd
    have scx := kcell hbx hsb0 sc
    have hsbx : sb < wx.heap.size := Nat.lt_of_lt_of_le hsb0 hbx.size
    have hltx : w.heap.size < wx.heap.size := Nat.lt_of_lt_of_le hlt0 hbx.size
    have g0 := kcell hbx hlt0 f0
    have g1 := kcell hbx hlt0 f1
    have hown0 : (wx.alloc (.cells #[] 50)).ownsRow wx.heap.size 50 9 (.slice (some ⟨wx.heap.size, 0, none⟩) 0 0) ([] : List Fl).length (([] : List Fl).flatMap encF) :=
      World.ownsRow_made wx #[] 0 (Nat.le_refl _) (Nat.zero_le _) rfl
    have hmt : i = ((L k).take i).length := by rw [List.length_take]; omega
    have hmd : (L k).length - (i + 1) = ((L k).drop (i + 1)).length := by rw [List.length_drop]
    have hm1 : (([] : List Fl).length + ((L k).take i).length) * 88 ≤ 140737488355328 := by rw [← hmt]; simp; omega
    have hm2 : ([] : List Fl).length + ((L k).take i).length ≤ maxLen := by rw [← hmt]; simp [maxLen]; omega
    have hm3 : (([] ++ (L k).take i).length + ((L k).drop (i + 1)).length) * 88 ≤ 140737488355328 := by rw [← hmd, List.nil_append, ← hmt]; omega
    have hm4 : ([] ++ (L k).take i).length + ((L k).drop (i + 1)).length ≤ maxLen := by rw [← hmd, List.nil_append, ← hmt]; simp [maxLen]; omega
    have hi0 : (0 : Int) ≤ (i : Int) := by omega
    have hi1 : (i : Int) ≤ (c k : Int) := by omega
    have hi2 : (i : Int) ≤ ((L k).length : Int) := by omega
    have hj0 : (0 : Int) ≤ (i : Int) + 1 := by omega
    have hj1 : (i : Int) + 1 ≤ ((L k).length : Int) := by omega
    have htn : ((i : Int) + 1).toNat = i + 1 := by omega
    obtain ⟨ys, hys⟩ : ∃ ys, ys = (L k).take i ++ (L k).drop (i + 1) := ⟨_, rfl⟩
    have HYS := Lib.hid hys
    clear hys
    have HMT := Lib.hid hmt
    have HMD := Lib.hid hmd
    have HM1 := Lib.hid hm1
    have HM2 := Lib.hid hm2
    have HM3 := Lib.hid hm3
    have HM4 := Lib.hid hm4
    have HOWN := Lib.hid hown0
    clear hmt hmd hm1 hm2 hm3 hm4 hown0 hatk hatd
    go_wp2_with fail
    have hwr : IntKind.i64.wrap ((i : Int) + 1) = (i : Int) + 1 := IntWalk.i64_in _ (by omega)
    have hveil := veil_eq
    rw [← veil_eq ⟨some 25, _, _, _, _, _⟩, ← veil_eq ⟨some 34, _, _, _, _, _⟩]
    go_region_held3 (fun wh => wh.cell? ⟨w.heap.size, 0, none⟩ = some (.int .i64 (k : Int)))
      ((first | assumption | (refine bkeep' (bal (Below.refl _ _) _) ?_; assumption) | (refine bkeep' (bdr (bal (Below.refl _ _) _)) ?_; assumption) | (refine kcell hB3 hlt0 ?_; assumption) | (refine kcell hB2 hlt0 ?_; assumption) | (refine kset hneq ?_; assumption)))
      (first
        | (refine step_append_at (P := Try.prog) (o := ⟨some 28, _, _, _, _, _⟩) rfl (.tmp 19) (.tmp 27) 23 rfl encF 9 encF_len encF_one wx.heap.size 50 _ 88 Try.underlying23 Try.infoFile rfl (by decide) _ ([] : List Fl) rfl HOWN.out ⟨b, off, none⟩ i (c k) ((L k).take i) (by simp [Act.eval]) HMT.out (HATT.out.below (bdr (bal (Below.refl _ _) _))) HM1.out HM2.out (by simp) ?_; intro v2 w2 hown2 hgrow2; have hB2 : Below W0.heap.size W0 w2 := bgr' (bdr (bal hbx _)) (own_mono HOWN.out hbx.size) (Nat.le_refl _) hgrow2; have sc2 := kcell hB2 hsb0 sc; have hB2x := bgr' (bdr (bal (Below.refl _ wx) _)) HOWN.out (Nat.le_refl _) hgrow2)
        | (refine step_append_at (P := Try.prog) (o := ⟨some 38, _, _, _, _, _⟩) rfl (.tmp 28) (.tmp 37) 23 rfl encF 9 encF_len encF_one wx.heap.size 50 _ 88 Try.underlying23 Try.infoFile rfl (by decide) v2 ([] ++ (L k).take i) rfl hown2 ad ((L k).length - (i + 1)) (c k - (i + 1)) ((L k).drop (i + 1)) (by simp [Act.eval]) HMD.out (HATD.out.below hB2x) HM3.out HM4.out hB2x.size ?_; intro v3 w3 hown3 hgrow3; have hB3 : Below W0.heap.size W0 w3 := bgr' hB2 (own_mono hown2 hbx.size) (Nat.le_refl _) hgrow3; have hc3 := kcell hB3 hsb0 sc; have hf3 := kfro hB3 hsb0 sf; obtain ⟨a3, d3, rfl, hat3, hbb3⟩ := at_of_own' encF_len hown3 rfl; simp only [List.nil_append] at hat3 ⊢; rw [← HYS.out] at hat3 ⊢))
    all_goals clear hwr
    all_goals go_wp2
    all_goals go_ret
    all_goals exact .inr ⟨i, HSO.out, rfl, _, _, by rw [← HYS.out]; exact (HS.out.below hB3).store hk hat3 (fun b hb e => absurd (hbb3 b hb) (by omega)), grown_of_below_set (hb0.trans (hB3.mono (Nat.le_of_lt hlt0))) sb k _⟩

end Go.Proofs.Ytjeanhaadbkncaa
