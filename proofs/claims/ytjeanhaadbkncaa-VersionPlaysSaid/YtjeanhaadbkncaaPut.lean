/- The walk of put: a file laid in its place. -/
import Derived.Test.YtjeanhaadbkncaaThere
import Derived.Test.YtjeanhaadbkncaaInsert
import Derived.Deep.RegionHeld3
namespace Go.Proofs.Ytjeanhaadbkncaa
open Go.RowKit

/-- An operation as it stands: a word that keeps a region's walk from taking a load first whose cell the region's own last store writes. -/
def veil (o : Oper) : Oper := o
theorem veil_eq (o : Oper) : veil o = o := rfl

def updG {α : Type} (vs : Nat → α) (n : Nat) (v : α) : Nat → α := fun k => if k = n then v else vs k
theorem updG_same {α : Type} (vs : Nat → α) (n : Nat) (v : α) : updG vs n v n = v := by simp [updG]
theorem updG_other {α : Type} (vs : Nat → α) {n k : Nat} (v : α) (h : k ≠ n) : updG vs n v k = vs k := by simp [updG, h]

theorem SetAt.store {w : World} {sb : Nat} {L : Nat → List Fl} {ao : Nat → Option Addr} {c : Nat → Nat} (h : SetAt w sb L ao c) {k : Nat} (hk : k < 4) {a : Option Addr} {d : Nat} {l : List Fl} (hat : At w encF 9 a d l) (hne : ∀ b, a = some b → b.block ≠ sb) :
    SetAt (w.setCell ⟨sb, k, none⟩ (.slice a l.length d)) sb (updG L k l) (updG ao k a) (updG c k d) where
  var := by
    have := h.var.set k (.slice a l.length d)
    have e : (#[.slice (ao 0) (L 0).length (c 0), .slice (ao 1) (L 1).length (c 1), .slice (ao 2) (L 2).length (c 2), .slice (ao 3) (L 3).length (c 3)] : Array Value).setIfInBounds k (.slice a l.length d) =
        #[.slice (updG ao k a 0) (updG L k l 0).length (updG c k d 0), .slice (updG ao k a 1) (updG L k l 1).length (updG c k d 1), .slice (updG ao k a 2) (updG L k l 2).length (updG c k d 2), .slice (updG ao k a 3) (updG L k l 3).length (updG c k d 3)] := by
      rcases (show k = 0 ∨ k = 1 ∨ k = 2 ∨ k = 3 by omega) with rfl | rfl | rfl | rfl <;> simp [updG]
    rw [← e]
    exact this
  lists := fun i hi => by
    by_cases e : i = k
    · subst e; rw [updG_same, updG_same, updG_same]; exact hat.setCell _ fun b hb => hne b hb
    · rw [updG_other _ _ e, updG_other _ _ e, updG_other _ _ e]; exact (h.lists i hi).setCell _ fun b hb => h.ne i hi b hb
  ne := fun i hi b hb => by
    by_cases e : i = k
    · subst e; rw [updG_same] at hb; exact hne b hb
    · rw [updG_other _ _ e] at hb; exact h.ne i hi b hb

theorem grown_of_below_set {w w9 : World} (hb : Below w.heap.size w w9) (sb k : Nat) (v : Value) : w.grownBy (w9.setCell ⟨sb, k, none⟩ v) (some sb) :=
  ⟨hb.os, hb.tape, hb.output, by rw [Var.setCell_lt]; exact hb.size, fun i hi hne => (Below.heap_setCell w9 ⟨sb, k, none⟩ v i (by intro e; exact hne (by rw [show i = sb from e]))).trans (hb.block i hi)⟩

theorem bkeep' {w w' : World} {a : Addr} {v : Value} (hb : Below w.heap.size w w') (h : w.cell? a = some v) : w'.cell? a = some v := (hb.cell (World.block_lt_of_cell? w a h)).trans h
theorem kcell {B : Nat} {w w' : World} (hb : Below B w w') {a : Addr} {v : Value} (hlt : a.block < B) (h : w.cell? a = some v) : w'.cell? a = some v := (hb.cell hlt).trans h
theorem kfro {B : Nat} {w w' : World} (hb : Below B w w') {a : Addr} {v : Bool} (hlt : a.block < B) (h : w.frozen? a = v) : w'.frozen? a = v := (hb.frozen hlt).trans h

theorem Var.newDrew (w : World) (cs : Array Value) (T : TypeId) : Var (w.alloc (.cells cs T)).drew w.heap.size cs T := heap_alloc_new w _
theorem own_mono {w : World} {base base' e k n : Nat} {v : Value} {xs : List Value} (h : w.ownsRow base e k v n xs) (hb : base' ≤ base) : w.ownsRow base' e k v n xs :=
  ⟨h.1, h.2.imp id fun ⟨g, cap, cur, a, b, r⟩ => ⟨g, cap, cur, a, Nat.le_trans hb b, r⟩⟩
theorem kset {w : World} {a b : Addr} {v x : Value} (hne : a.block ≠ b.block) (h : w.cell? a = some v) : (w.setCell b x).cell? a = some v := (World.cell?_of_block (w := w) (Below.heap_setCell w b x a.block hne)).trans h

/-- The place of a file among others: ahead of the first that it goes ahead of; else last. -/
def putI (xs : List Fl) (f : Fl) : Nat := match xs.findIdx? (fun o => aheadS f.lv f.nu f.lu o.nu o.su) with | some i => i | none => xs.length
def putS (xs : List Fl) (f : Fl) : List Fl := insS xs (putI xs f) f
theorem putI_le (xs : List Fl) (f : Fl) : putI xs f ≤ xs.length := by
  unfold putI
  split
  · rename_i i h
    exact Nat.le_of_lt (List.findIdx?_eq_some_iff_getElem.1 h).1
  · exact Nat.le_refl _
theorem put_cases (xs : List Fl) (f : Fl) : (idxS (fun o => aheadS f.lv f.nu f.lu o.nu o.su) xs = -1 ∧ putI xs f = xs.length) ∨ idxS (fun o => aheadS f.lv f.nu f.lu o.nu o.su) xs = (putI xs f : Int) := by
  unfold idxS putI
  cases xs.findIdx? (fun o => aheadS f.lv f.nu f.lu o.nu o.su) with
  | none => exact .inl ⟨rfl, rfl⟩
  | some i => exact .inr rfl

theorem tells_put (gb : Nat) (gl gn : Int) (gu : ByteArray) (w : World) (h0 : w.cell? ⟨gb, 0, none⟩ = some (.int .i64 gl)) (h1 : w.cell? ⟨gb, 1, none⟩ = some (.int .u64 gn)) (h6 : w.cell? ⟨gb, 6, none⟩ = some (.string gu)) :
    Tells 52 (.pointer (some ⟨gb, 0, none⟩)) (fun o => aheadS gl gn gu o.nu o.su) w := by
  intro w1 hb f
  have hlt : gb < w.heap.size := World.block_lt_of_cell? w _ h0
  exact putIs_any f.lv f.nu f.sz f.su f.ss f.sk f.lu f.ls f.lk gb 0 gl gn gu w1 ((hb.cell hlt).trans h0) ((hb.cell hlt).trans h1) ((hb.cell hlt).trans h6)

set_option maxRecDepth 100000 in
set_option maxHeartbeats 4000000 in
theorem put_any (sb k : Nat) (L : Nat → List Fl) (ao : Nat → Option Addr) (c : Nat → Nat) (f : Fl) (w : World) (hk : k < 4) (hlv : f.lv = (k : Int)) (hs : SetAt w sb L ao c) (hsz : ∀ i, i < 4 → (L i).length ≤ 1000000) :
    Calls Try.prog 34 #[.pointer (some ⟨sb, 0, none⟩), .agg (encF f).toArray] w fun e w' =>
      e = .returned (.tuple #[]) ∧ ∃ ao' c', SetAt w' sb (updG L k (putS (L k) f)) ao' c' ∧ w.grownBy w' (some sb) := by
  have hcon : ∀ w1, Tells 52 (.pointer (some ⟨w.heap.size, 0, none⟩)) (fun o => aheadS f.lv f.nu f.lu o.nu o.su) w1 → At w1 encF 9 (ao k) (c k) (L k) →
      Calls Try.prog 50 #[.slice (ao k) (L k).length (c k), .func (.func 52) #[] #[.pointer (some ⟨w.heap.size, 0, none⟩)]] w1 fun e w' => e = .returned (.int .i64 (idxS (fun o => aheadS f.lv f.nu f.lu o.nu o.su) (L k))) ∧ Below w1.heap.size w1 w' := fun w1 ht hat =>
    indexFunc_any 52 _ _ (ao k) (c k) (L k) w1 hat (hsz k hk) Try.call52 ht
  have HC := Lib.hid hcon
  have hpc := put_cases (L k) f
  have hple := putI_le (L k) f
  have HP : Hid (putS (L k) f = insS (L k) (putI (L k) f) f) := rfl
  obtain ⟨pi, hpi⟩ : ∃ pi, pi = putI (L k) f := ⟨_, rfl⟩
  rw [← hpi] at hpc hple HP
  have hlen := hsz k hk
  obtain ⟨lv, nu, sz, su, ss, sk, lu, ls, lk⟩ := f
  dsimp only at hlv hpc
  subst hlv
  change Calls Try.prog 34 #[.pointer (some ⟨sb, 0, none⟩), .agg #[.int .i64 (k : Int), .int .u64 nu, .int .i64 sz, .string su, .int .u64 ss, .int .i64 sk, .string lu, .int .u64 ls, .int .i64 lk]] w _
  obtain ⟨W0, hW0⟩ : ∃ W0, W0 = w.alloc (.cells #[.int .i64 (k : Int), .int .u64 nu, .int .i64 sz, .string su, .int .u64 ss, .int .i64 sk, .string lu, .int .u64 ls, .int .i64 lk] 50) := ⟨_, rfl⟩
  have hb0 : Below w.heap.size w W0 := by rw [hW0]; exact bal (Below.refl _ _) _
  have hv0 : Var W0 w.heap.size #[.int .i64 (k : Int), .int .u64 nu, .int .i64 sz, .string su, .int .u64 ss, .int .i64 sk, .string lu, .int .u64 ls, .int .i64 lk] 50 := by rw [hW0]; exact Var.new _ _ _
  have hs0 := hs.below hb0
  have HS := Lib.hid hs0
  have HT : Hid (∀ w1, Below W0.heap.size W0 w1 → Tells 52 (.pointer (some ⟨w.heap.size, 0, none⟩)) (fun o => aheadS (k : Int) nu lu o.nu o.su) w1) := Lib.hid fun w1 hb => tells_put _ _ _ _ _ ((hv0.below hb).cell 0) ((hv0.below hb).cell 1) ((hv0.below hb).cell 6)
  have hlt0 : w.heap.size < W0.heap.size := hv0.lt
  have hsb : sb < w.heap.size := hs.var.lt
  have hsb0 : sb < W0.heap.size := by omega
  have f0 := hv0.cell 0
  have f1 := hv0.cell 1
  have f2 := hv0.cell 2
  have f3 := hv0.cell 3
  have f4 := hv0.cell 4
  have f5 := hv0.cell 5
  have f6 := hv0.cell 6
  have f7 := hv0.cell 7
  have f8 := hv0.cell 8
  have sc := hs0.cell hk
  have sf := hs0.var.free k
  have hk0 : (0 : Int) ≤ (k : Int) := by omega
  have hk4 : (k : Int) < 4 := by omega
  have HW := Lib.hid hW0
  clear hcon hW0 hs hs0 hsz hpi hv0
  go_enter Try.func34, Try.ntmps34
  go_wp2_with fail
  rw [← HW.out]
  go_region_held3 (fun wh => wh.cell? ⟨w.heap.size, 0, none⟩ = some (.int .i64 (k : Int)) ∧ wh.cell? ⟨sb, k, none⟩ = some (.slice (ao k) (L k).length (c k)) ∧ Below W0.heap.size W0 wh)
    ((go_split_ands; (repeat' apply And.intro) <;> first | (exact bdr (Below.refl _ _)) | assumption | (refine bkeep' hb9 ?_; assumption) | (refine btr ?_ hb9; assumption)))
    (first | (go_at_call 50; go_split_ands; refine (HC.out _ (HT.out _ ?_) ((HS.out.below ?_).lists k hk)).mono ?_; (first | assumption | exact bdr (Below.refl _ _)); (first | assumption | exact bdr (Below.refl _ _)); rintro e w9 ⟨rfl, hb9⟩))
  rename_i hS
  obtain ⟨-, -, hb1⟩ := hS
  have hneq : w.heap.size ≠ sb := by omega
  rcases hpc with ⟨hi, hpl⟩ | hi
  · subst hpl
    rw [hi]
    have sc9 := kcell hb1 hsb0 sc
    have c09 := kcell hb1 hlt0 f0
    have hsb9 : sb < w9.heap.size := Nat.lt_of_lt_of_le hsb0 hb1.size
    have hl9 : w.heap.size < w9.heap.size := Nat.lt_of_lt_of_le hlt0 hb1.size
    go_wp2_with fail
    go_quiet (fail)
    go_wp2_with fail
    obtain ⟨wx, hwx⟩ : ∃ wx, wx = w9.drewN nq := ⟨_, rfl⟩
    have hbx : Below W0.heap.size W0 wx := by rw [hwx]; exact bdrn hb1 nq
    rw [← hwx]
    clear hwx hb1 sc9 c09 hsb9 hl9
    have scx := kcell hbx hsb0 sc
    have hsbx : sb < wx.heap.size := Nat.lt_of_lt_of_le hsb0 hbx.size
    have hltx : w.heap.size < wx.heap.size := Nat.lt_of_lt_of_le hlt0 hbx.size
    have g0 := kcell hbx hlt0 f0
    have g1 := kcell hbx hlt0 f1
    have g2 := kcell hbx hlt0 f2
    have g3 := kcell hbx hlt0 f3
    have g4 := kcell hbx hlt0 f4
    have g5 := kcell hbx hlt0 f5
    have g6 := kcell hbx hlt0 f6
    have g7 := kcell hbx hlt0 f7
    have g8 := kcell hbx hlt0 f8
    have hveil := veil_eq
    rw [← veil_eq ⟨some 30, _, _, _, _, _⟩]
    go_region_held3 (fun wh => wh.cell? ⟨w.heap.size, 0, none⟩ = some (.int .i64 (k : Int)) ∧ wh.cell? ⟨w.heap.size, 1, none⟩ = some (.int .u64 nu) ∧ wh.cell? ⟨w.heap.size, 2, none⟩ = some (.int .i64 sz) ∧ wh.cell? ⟨w.heap.size, 3, none⟩ = some (.string su) ∧ wh.cell? ⟨w.heap.size, 4, none⟩ = some (.int .u64 ss) ∧ wh.cell? ⟨w.heap.size, 5, none⟩ = some (.int .i64 sk) ∧ wh.cell? ⟨w.heap.size, 6, none⟩ = some (.string lu) ∧ wh.cell? ⟨w.heap.size, 7, none⟩ = some (.int .u64 ls) ∧ wh.cell? ⟨w.heap.size, 8, none⟩ = some (.int .i64 lk))
      ((go_split_ands; (repeat' apply And.intro) <;> first | assumption | (refine bkeep' hbC ?_; assumption) | (refine bkeep' (bal (Below.refl _ _) _) ?_; assumption) | (refine bkeep' (bdr (bal (Below.refl _ _) _)) ?_; assumption) | (refine kcell hB9 hlt0 ?_; assumption) | (refine kset hneq ?_; assumption)))
      (first
        | (go_at_call 32; refine (clone_own (ao k) (c k) (L k) _ ((HS.out.below ?_).lists k hk) hlen).mono ?_; (first | exact bdr hbx | exact bal (bdr hbx) _ | exact bdr (bal hbx _)); rintro e wc ⟨vC, rfl, hownC, hbC⟩; have hBC : Below W0.heap.size W0 wc := btr (by first | exact bdr hbx | exact bal (bdr hbx) _ | exact bdr (bal hbx _)) hbC; have hltC := hownC.lt; have hownD := own_mono hownC (show W0.heap.size ≤ _ by first | exact hbx.size | exact Nat.le_trans hbx.size (by simp)))
        | (go_at_call 54; refine (insert_any vC (L k) (L k).length ⟨(k : Int), nu, sz, su, ss, sk, lu, ls, lk⟩ _ W0.heap.size _ ?_ hple hlen ?_ ?_ ?_).mono ?_; (first | exact hownD | exact hownD.alloc _); (first | exact Var.new _ _ _ | exact (Var.new _ _ _).below hbC | exact (Var.newDrew _ _ _).below hbC); (intro hq; first | exact absurd (hltC _ hq.symm).2 (Nat.lt_irrefl _) | exact absurd (hltC _ hq.symm).1 (by simp)); (first | exact hBC.size | exact Nat.le_trans hBC.size (by simp)); rintro e w9 ⟨a9, d9, rfl, hat9, hne9, hbI⟩;
            have hB9 : Below W0.heap.size W0 w9 := Below.trans (by first | exact hBC | exact bal hBC _) hbI; have hc9 := kcell hB9 hsb0 sc; have hf9 := kfro hB9 hsb0 sf; have hne9' : ∀ b, a9 = some b → b.block ≠ sb := fun b hb e => absurd (hne9 b hb) (by omega)))
    all_goals go_wp2
    all_goals (refine bodyPost_end (v := .tuple #[]) (by simp [results, Try.results34, go_sem]) rfl ?_)
    all_goals exact ⟨rfl, _, _, by rw [HP.out]; exact (HS.out.below hB9).store hk hat9 hne9', grown_of_below_set (hb0.trans (hB9.mono (Nat.le_of_lt hlt0))) sb k _⟩
  · rw [hi]
    obtain ⟨wx, hwx⟩ : ∃ wx, wx = w9 := ⟨_, rfl⟩
    have hbx : Below W0.heap.size W0 wx := by rw [hwx]; exact hb1
    rw [← hwx]
    clear hwx hb1
    go_wp2_with fail
    have scx := kcell hbx hsb0 sc
    have hsbx : sb < wx.heap.size := Nat.lt_of_lt_of_le hsb0 hbx.size
    have hltx : w.heap.size < wx.heap.size := Nat.lt_of_lt_of_le hlt0 hbx.size
    have g0 := kcell hbx hlt0 f0
    have g1 := kcell hbx hlt0 f1
    have g2 := kcell hbx hlt0 f2
    have g3 := kcell hbx hlt0 f3
    have g4 := kcell hbx hlt0 f4
    have g5 := kcell hbx hlt0 f5
    have g6 := kcell hbx hlt0 f6
    have g7 := kcell hbx hlt0 f7
    have g8 := kcell hbx hlt0 f8
    have hveil := veil_eq
    rw [← veil_eq ⟨some 30, _, _, _, _, _⟩]
    go_region_held3 (fun wh => wh.cell? ⟨w.heap.size, 0, none⟩ = some (.int .i64 (k : Int)) ∧ wh.cell? ⟨w.heap.size, 1, none⟩ = some (.int .u64 nu) ∧ wh.cell? ⟨w.heap.size, 2, none⟩ = some (.int .i64 sz) ∧ wh.cell? ⟨w.heap.size, 3, none⟩ = some (.string su) ∧ wh.cell? ⟨w.heap.size, 4, none⟩ = some (.int .u64 ss) ∧ wh.cell? ⟨w.heap.size, 5, none⟩ = some (.int .i64 sk) ∧ wh.cell? ⟨w.heap.size, 6, none⟩ = some (.string lu) ∧ wh.cell? ⟨w.heap.size, 7, none⟩ = some (.int .u64 ls) ∧ wh.cell? ⟨w.heap.size, 8, none⟩ = some (.int .i64 lk))
      ((go_split_ands; (repeat' apply And.intro) <;> first | assumption | (refine bkeep' hbC ?_; assumption) | (refine bkeep' (bal (Below.refl _ _) _) ?_; assumption) | (refine bkeep' (bdr (bal (Below.refl _ _) _)) ?_; assumption) | (refine kcell hB9 hlt0 ?_; assumption) | (refine kset hneq ?_; assumption)))
      (first
        | (go_at_call 32; refine (clone_own (ao k) (c k) (L k) _ ((HS.out.below ?_).lists k hk) hlen).mono ?_; (first | exact bdr hbx | exact bal (bdr hbx) _ | exact bdr (bal hbx _)); rintro e wc ⟨vC, rfl, hownC, hbC⟩; have hBC : Below W0.heap.size W0 wc := btr (by first | exact bdr hbx | exact bal (bdr hbx) _ | exact bdr (bal hbx _)) hbC; have hltC := hownC.lt; have hownD := own_mono hownC (show W0.heap.size ≤ _ by first | exact hbx.size | exact Nat.le_trans hbx.size (by simp)))
        | (go_at_call 54; refine (insert_any vC (L k) pi ⟨(k : Int), nu, sz, su, ss, sk, lu, ls, lk⟩ _ W0.heap.size _ ?_ hple hlen ?_ ?_ ?_).mono ?_; (first | exact hownD | exact hownD.alloc _); (first | exact Var.new _ _ _ | exact (Var.new _ _ _).below hbC | exact (Var.newDrew _ _ _).below hbC); (intro hq; first | exact absurd (hltC _ hq.symm).2 (Nat.lt_irrefl _) | exact absurd (hltC _ hq.symm).1 (by simp)); (first | exact hBC.size | exact Nat.le_trans hBC.size (by simp)); rintro e w9 ⟨a9, d9, rfl, hat9, hne9, hbI⟩;
            have hB9 : Below W0.heap.size W0 w9 := Below.trans (by first | exact hBC | exact bal hBC _) hbI; have hc9 := kcell hB9 hsb0 sc; have hf9 := kfro hB9 hsb0 sf; have hne9' : ∀ b, a9 = some b → b.block ≠ sb := fun b hb e => absurd (hne9 b hb) (by omega)))
    all_goals go_wp2
    all_goals (refine bodyPost_end (v := .tuple #[]) (by simp [results, Try.results34, go_sem]) rfl ?_)
    all_goals exact ⟨rfl, _, _, by rw [HP.out]; exact (HS.out.below hB9).store hk hat9 hne9', grown_of_below_set (hb0.trans (hB9.mono (Nat.le_of_lt hlt0))) sb k _⟩

end Go.Proofs.Ytjeanhaadbkncaa
