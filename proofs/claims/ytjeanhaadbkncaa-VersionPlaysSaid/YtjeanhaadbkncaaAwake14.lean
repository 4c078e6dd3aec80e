/- The walk of layer 14's awake: it answers true. -/
import Derived.Test.YtjeanhaadbkncaaAsk
import Derived.Test.YtjeanhaadbkncaaApply
import Derived.Test.YtjeanhaadbkncaaNod
import Derived.Test.YtjeanhaadbkncaaVerAt
import Derived.Deep.RegionHeld3
import Derived.Deep.DeepCutAuto
namespace Go.Proofs.Ytjeanhaadbkncaa
open Go.RowKit

def fA : Fl := ⟨1, 3, 1, ⟨#[97]⟩, 1, 1, ⟨#[99]⟩, 1, 1⟩
def fB : Fl := ⟨1, 4, 1, ⟨#[99]⟩, 1, 1, ⟨#[100]⟩, 1, 1⟩
def fC : Fl := ⟨1, 4, 1, ⟨#[100]⟩, 1, 1, ⟨#[101]⟩, 1, 1⟩

theorem okV_none : OkV noneV := by
  intro n hn i f h
  simp [noneV] at h
theorem okV_A : OkV (updG noneV 1 [fA]) := by
  intro n hn i f h
  by_cases e : n = 1
  · subst e
    rw [updG_same] at h
    match i, h with
    | 0, h => cases h; decide
    | i + 1, h => simp at h
  · rw [updG_other _ _ e] at h
    simp [noneV] at h
theorem applyS_of {L : Nat → List Fl} {fs : List Fl} (hok : OkV L) (he : editS 0 0 0 [] fs = 0) : applyS L 0 0 0 [] fs = addsS L fs := by
  unfold applyS
  rw [checkS_ok hok, if_neg (by decide), he, if_neg (by decide)]
  rfl
theorem apply_A : applyS noneV 0 0 0 [] [fA] = (0, updG noneV 1 [fA]) := by
  rw [applyS_of okV_none (by decide)]
  rfl
theorem ltB_l (a b : ByteArray) : ltB a b = Op.bytesLess a.data.toList b.data.toList := by
  unfold ltB
  rw [ByteArray.toList_eq, ByteArray.toList_eq]
theorem has1 : hasU ⟨#[97]⟩ ⟨#[99]⟩ ⟨#[99]⟩ ⟨#[100]⟩ = true := by simp only [hasU, leB_not, ltB_l]; decide
theorem has2 : hasU ⟨#[97]⟩ ⟨#[99]⟩ ⟨#[100]⟩ ⟨#[101]⟩ = false := by simp only [hasU, leB_not, ltB_l]; decide
theorem has3 : hasU ⟨#[97]⟩ ⟨#[99]⟩ ⟨#[98]⟩ ⟨#[122]⟩ = true := by simp only [hasU, leB_not, ltB_l]; decide
theorem has4 : hasU ⟨#[100]⟩ ⟨#[101]⟩ ⟨#[98]⟩ ⟨#[122]⟩ = true := by simp only [hasU, leB_not, ltB_l]; decide
theorem has5 : hasU ⟨#[97]⟩ ⟨#[99]⟩ ⟨#[100]⟩ ⟨#[100]⟩ = false := by simp only [hasU, leB_not, ltB_l]; decide
theorem has6 : hasU ⟨#[100]⟩ ⟨#[101]⟩ ⟨#[100]⟩ ⟨#[100]⟩ = true := by simp only [hasU, leB_not, ltB_l]; decide
theorem less1 : ltB ⟨#[101]⟩ ⟨#[97]⟩ = false := by rw [ltB_l]; decide

theorem apply_B : applyS (updG noneV 1 [fA]) 0 0 0 [] [fB] = (143, noneV) := by
  rw [applyS_of okV_A (by decide)]
  simp [addsS, thereS, updG, noneV, fA, fB, overS, has1]
theorem apply_C : applyS (updG noneV 1 [fA]) 0 0 0 [] [fC] = (0, updG (updG noneV 1 [fA]) 1 [fA, fC]) := by
  rw [applyS_of okV_A (by decide)]
  simp [addsS, thereS, updG, noneV, fA, fC, overS, has2, putS, putI, insS, aheadS, less1]
theorem over_AC : overL (updG (updG noneV 1 [fA]) 1 [fA, fC]) 1 ⟨#[98]⟩ ⟨#[122]⟩ = [fA, fC] := by
  simp [overL, overS, updG, fA, fC, has3, has4]
theorem ask_AC : askS (updG (updG noneV 1 [fA]) 1 [fA, fC]) ⟨#[100]⟩ 4 = [fC] := by
  simp [askS, overS, updG, noneV, fA, fC, has5, has6]


theorem Var.drew {w : World} {b : Nat} {cs : Array Value} {T : TypeId} (h : Var w b cs T) : Var w.drew b cs T := h

theorem laid_ver {w5 : World} {g : Nat} {L : Nat → List Fl} {ao : Nat → Option Addr} {c : Nat → Nat} (hT : Var w5 g #[.slice none 0 0, .slice none 0 0, .slice none 0 0, .slice none 0 0] 26) (hat : ∀ i, i < 4 → At w5 encF 9 (ao i) (c i) (L i)) :
    VerAt ((((w5.setCell ⟨g, 0, none⟩ (.slice (ao 0) (L 0).length (c 0))).setCell ⟨g, 1, none⟩ (.slice (ao 1) (L 1).length (c 1))).setCell ⟨g, 2, none⟩ (.slice (ao 2) (L 2).length (c 2))).setCell ⟨g, 3, none⟩ (.slice (ao 3) (L 3).length (c 3))) g L ao c := by
  refine VerAt.of ?_ fun i hi => ?_
  · have := (((hT.set 0 (.slice (ao 0) (L 0).length (c 0))).set 1 (.slice (ao 1) (L 1).length (c 1))).set 2 (.slice (ao 2) (L 2).length (c 2))).set 3 (.slice (ao 3) (L 3).length (c 3))
    simpa using this
  · have hq := (hat i hi).apart hT
    exact ((((hat i hi).setFar _ hq).setFar _ hq).setFar _ hq).setFar _ hq

set_option maxRecDepth 100000 in
set_option maxHeartbeats 4000000 in
theorem awake14_any (w : World) : Calls Try.prog 9 #[] w fun e w' => e = .returned (.bool true) ∧ Below w.heap.size w w' := by
  obtain ⟨L1, hL1⟩ : ∃ L1, L1 = updG noneV 1 [fA] := ⟨_, rfl⟩
  obtain ⟨L2, hL2⟩ : ∃ L2, L2 = updG (updG noneV 1 [fA]) 1 [fA, fC] := ⟨_, rfl⟩
  have HA1 : Hid (applyS noneV 0 0 0 [] [fA] = (0, L1)) := by show _ = _; rw [hL1]; exact apply_A
  have HA2 : Hid (applyS L1 0 0 0 [] [fB] = (143, noneV)) := by show _ = _; rw [hL1]; exact apply_B
  have HA3 : Hid (applyS L1 0 0 0 [] [fC] = (0, L2)) := by show _ = _; rw [hL1, hL2]; exact apply_C
  have HO : Hid (overL L2 1 ⟨#[98]⟩ ⟨#[122]⟩ = [fA, fC]) := by show _ = _; rw [hL2]; exact over_AC
  have HK : Hid (askS L2 ⟨#[100]⟩ 4 = [fC]) := by show _ = _; rw [hL2]; exact ask_AC
  have HZ1 : Hid (∀ i, i < 4 → (L1 i).length ≤ 900000) := Lib.hid (by rw [hL1]; exact updG_len (B := 900000) (fun i _ => by simp [noneV]) (by simp) (by omega))
  have HZ2 : Hid (∀ i, i < 4 → (L2 i).length ≤ 1000000) := Lib.hid (by rw [hL2]; exact updG_len (B := 900000) (updG_len (B := 900000) (fun i _ => by simp [noneV]) (by simp) (by omega)) (by simp) (by omega))
  have HWF : Hid (∀ i, i < 4 → ∀ f ∈ L1 i, WfF f) := Lib.hid (by
    intro i hi f hf
    rw [hL1] at hf
    by_cases e : i = 1
    · subst e; rw [updG_same] at hf; simp at hf; subst hf; unfold WfF; decide
    · rw [updG_other _ _ e] at hf; simp [noneV] at hf)
  clear hL1 hL2
  go_enter Try.func9, Try.ntmps9
  go_wp2_with (first
    | (go_at_call 30; refine (lawFile_any _ _ _ _ _).mono ?_; rintro e w1 ⟨rfl, hb1⟩)
    | (go_at_call 12; refine (apply_any (fun _ => none) noneV (fun _ => 0) 0 0 0 none 0 [] (some ⟨w1.heap.size, 0, none⟩) 1 [fA] _ (fun i _ => At.nil _ _ _) (At.nil _ _ _) (at_one _ encF 9 _ encF_len fA _ rfl) (fun i _ => by simp [noneV]) (fun i _ f hf => by simp [noneV] at hf)).mono ?_; rw [HA1.out]; rintro e w2 ⟨v, rfl, ⟨ao1, c1, rfl, hat1⟩, hb2⟩))
  obtain ⟨W3, hW3⟩ : ∃ W3, W3 = w2.alloc (.cells #[.slice (ao1 0) (L1 0).length (c1 0), .slice (ao1 1) (L1 1).length (c1 1), .slice (ao1 2) (L1 2).length (c1 2), .slice (ao1 3) (L1 3).length (c1 3)] 26) := ⟨_, rfl⟩
  rw [← hW3]
  have hb3 : Below w.heap.size w W3 := by rw [hW3]; exact bal (btr (bal hb1 _) hb2) _
  have hlW3 : w2.heap.size < W3.heap.size := by rw [hW3]; simp
  have HAT : Hid (∀ i, i < 4 → At W3 encF 9 (ao1 i) (c1 i) (L1 i)) := Lib.hid (fun i hi => by rw [hW3]; exact (hat1 i hi).below (bal (Below.refl _ _) _))
  have hv3 : Var W3 w2.heap.size #[.slice (ao1 0) (L1 0).length (c1 0), .slice (ao1 1) (L1 1).length (c1 1), .slice (ao1 2) (L1 2).length (c1 2), .slice (ao1 3) (L1 3).length (c1 3)] 26 := by rw [hW3]; exact Var.new _ _ _
  have v0 := hv3.cell 0
  have v1 := hv3.cell 1
  have v2 := hv3.cell 2
  have v3 := hv3.cell 3
  clear hW3 hv3 hat1 hb2 hb1
  go_upto_region 2 with fail
  go_cut [4] (fun s4 wx => s4 = .int .i64 143 ∧ Below W3.heap.size W3 wx)
  case first =>
    go_region_held3 (fun wh => wh.cell? ⟨w2.heap.size, 0, none⟩ = some (.slice (ao1 0) (L1 0).length (c1 0)) ∧ wh.cell? ⟨w2.heap.size, 1, none⟩ = some (.slice (ao1 1) (L1 1).length (c1 1)) ∧ wh.cell? ⟨w2.heap.size, 2, none⟩ = some (.slice (ao1 2) (L1 2).length (c1 2)) ∧ wh.cell? ⟨w2.heap.size, 3, none⟩ = some (.slice (ao1 3) (L1 3).length (c1 3)) ∧ Below W3.heap.size W3 wh)
      ((go_split_ands; (repeat' apply And.intro) <;> first | (with_reducible assumption) | (refine kcell ?_ hlW3 v0; (repeat (first | exact Below.refl _ _ | (with_reducible assumption) | refine bal ?_ _ | refine bset ?_ (by first | omega | (simp; done) | (simp; omega)) _ | refine bdr ?_ | refine bdrn ?_ _ | refine btr ?_ (by with_reducible assumption)))) | (refine kcell ?_ hlW3 v1; (repeat (first | exact Below.refl _ _ | (with_reducible assumption) | refine bal ?_ _ | refine bset ?_ (by first | omega | (simp; done) | (simp; omega)) _ | refine bdr ?_ | refine bdrn ?_ _ | refine btr ?_ (by with_reducible assumption)))) | (refine kcell ?_ hlW3 v2; (repeat (first | exact Below.refl _ _ | (with_reducible assumption) | refine bal ?_ _ | refine bset ?_ (by first | omega | (simp; done) | (simp; omega)) _ | refine bdr ?_ | refine bdrn ?_ _ | refine btr ?_ (by with_reducible assumption)))) | (refine kcell ?_ hlW3 v3; (repeat (first | exact Below.refl _ _ | (with_reducible assumption) | refine bal ?_ _ | refine bset ?_ (by first | omega | (simp; done) | (simp; omega)) _ | refine bdr ?_ | refine bdrn ?_ _ | refine btr ?_ (by with_reducible assumption)))) | (repeat (first | exact Below.refl _ _ | (with_reducible assumption) | refine bal ?_ _ | refine bset ?_ (by first | omega | (simp; done) | (simp; omega)) _ | refine bdr ?_ | refine bdrn ?_ _ | refine btr ?_ (by with_reducible assumption)))))
      (first
        | (go_at_call 30; go_split_ands; refine (lawFile_any _ _ _ _ _).mono ?_; rintro e w4 ⟨rfl, hb4⟩; have hz4 := hb4.size; (try simp at hz4))
        | (go_at_call 12; go_split_ands; refine (apply_any ao1 L1 c1 0 0 0 none 0 [] _ 1 [fB] _ ?_ (At.nil _ _ _) ?_ HZ1.out HWF.out).mono ?_; (intro i hi; refine (HAT.out i hi).below ?_; (repeat (first | exact Below.refl _ _ | (with_reducible assumption) | refine bal ?_ _ | refine bset ?_ (by first | omega | (simp; done) | (simp; omega)) _ | refine bdr ?_ | refine bdrn ?_ _ | refine btr ?_ (by with_reducible assumption)))); (first | exact at_one _ encF 9 _ encF_len fB _ rfl | exact (at_one _ encF 9 _ encF_len fB _ rfl).below (bal (Below.refl _ _) _) | exact at_one' _ encF 9 _ encF_len fB _ rfl (by simp)); rw [HA2.out]; rintro e w5 ⟨v, rfl, ⟨ao5, c5, rfl, hat5⟩, hb5⟩; have hz5 := hb5.size; (try simp at hz5); (try ((first | (have hT := (((Var.newDrew W3 #[.slice none 0 0, .slice none 0 0, .slice none 0 0, .slice none 0 0] 26).below hb4).alloc _).below hb5) | (have hT := (((Var.new W3 #[.slice none 0 0, .slice none 0 0, .slice none 0 0, .slice none 0 0] 26).below hb4).alloc _).below hb5) | (have hT := (((Var.newDrew W3 #[.slice none 0 0, .slice none 0 0, .slice none 0 0, .slice none 0 0] 26).below hb4).alloc _).drew.below hb5) | (have hT := ((Var.new w4 #[.slice none 0 0, .slice none 0 0, .slice none 0 0, .slice none 0 0] 26).alloc _).below hb5) | (have hT := ((Var.new w4 #[.slice none 0 0, .slice none 0 0, .slice none 0 0, .slice none 0 0] 26).alloc _).drew.below hb5) | (have hT := (Var.new' (b := w4.heap.size + 1) (w4.alloc _) #[.slice none 0 0, .slice none 0 0, .slice none 0 0, .slice none 0 0] 26 (by simp)).below hb5) | (have hT := (Var.new' (b := w4.heap.size + 1) (w4.alloc _) #[.slice none 0 0, .slice none 0 0, .slice none 0 0, .slice none 0 0] 26 (by simp)).drew.below hb5)); have tl := hT.lt; have t0 := hT.cell 0; have t1 := hT.cell 1; have t2 := hT.cell 2; have t3 := hT.cell 3; have y0 := hT.free 0; have y1 := hT.free 1; have y2 := hT.free 2; have y3 := hT.free 3; clear hT))))
    all_goals (go_wp2_with fail; go_meet; exact ⟨rfl, by (repeat (first | exact Below.refl _ _ | (with_reducible assumption) | refine bal ?_ _ | refine bset ?_ (by first | omega | (simp; done) | (simp; omega)) _ | refine bdr ?_ | refine bdrn ?_ _ | refine btr ?_ (by with_reducible assumption)))⟩)
  case rest =>
    obtain ⟨rfl, hbc⟩ := hcut
    obtain ⟨W4, hW4⟩ : ∃ W4, W4 = wc := ⟨_, rfl⟩
    subst hW4
    have HAT4 : Hid (∀ i, i < 4 → At W4 encF 9 (ao1 i) (c1 i) (L1 i)) := Lib.hid (fun i hi => (HAT.out i hi).below hbc)
    have u0 := kcell hbc hlW3 v0
    have u1 := kcell hbc hlW3 v1
    have u2 := kcell hbc hlW3 v2
    have u3 := kcell hbc hlW3 v3
    have hlW4 : w2.heap.size < W4.heap.size := Nat.lt_of_lt_of_le hlW3 hbc.size
    have hb4 := btr hb3 hbc
    clear v0 v1 v2 v3 HAT hlW3 hbc hb3
    have v0 := u0
    have v1 := u1
    have v2 := u2
    have v3 := u3
    have HAT := HAT4
    have HB4 := Lib.hid hb4
    clear u0 u1 u2 u3 HAT4 hb4
    go_upto_region 3 with fail
    go_cut [5, 6] (fun s5 s6 wx => ∃ sb ao7 c7, s5 = .pointer (some ⟨sb, 0, none⟩) ∧ s6 = .int .i64 0 ∧ VerAt wx sb L2 ao7 c7 ∧ Below W4.heap.size W4 wx)
    case first =>
      go_region_held3 (fun wh => wh.cell? ⟨w2.heap.size, 0, none⟩ = some (.slice (ao1 0) (L1 0).length (c1 0)) ∧ wh.cell? ⟨w2.heap.size, 1, none⟩ = some (.slice (ao1 1) (L1 1).length (c1 1)) ∧ wh.cell? ⟨w2.heap.size, 2, none⟩ = some (.slice (ao1 2) (L1 2).length (c1 2)) ∧ wh.cell? ⟨w2.heap.size, 3, none⟩ = some (.slice (ao1 3) (L1 3).length (c1 3)) ∧ Below W4.heap.size W4 wh)
      ((go_split_ands; (repeat' apply And.intro) <;> first | (with_reducible assumption) | (refine kcell ?_ hlW4 v0; (repeat (first | exact Below.refl _ _ | (with_reducible assumption) | refine bal ?_ _ | refine bset ?_ (by first | omega | (simp; done) | (simp; omega)) _ | refine bdr ?_ | refine bdrn ?_ _ | refine btr ?_ (by with_reducible assumption)))) | (refine kcell ?_ hlW4 v1; (repeat (first | exact Below.refl _ _ | (with_reducible assumption) | refine bal ?_ _ | refine bset ?_ (by first | omega | (simp; done) | (simp; omega)) _ | refine bdr ?_ | refine bdrn ?_ _ | refine btr ?_ (by with_reducible assumption)))) | (refine kcell ?_ hlW4 v2; (repeat (first | exact Below.refl _ _ | (with_reducible assumption) | refine bal ?_ _ | refine bset ?_ (by first | omega | (simp; done) | (simp; omega)) _ | refine bdr ?_ | refine bdrn ?_ _ | refine btr ?_ (by with_reducible assumption)))) | (refine kcell ?_ hlW4 v3; (repeat (first | exact Below.refl _ _ | (with_reducible assumption) | refine bal ?_ _ | refine bset ?_ (by first | omega | (simp; done) | (simp; omega)) _ | refine bdr ?_ | refine bdrn ?_ _ | refine btr ?_ (by with_reducible assumption)))) | (repeat (first | exact Below.refl _ _ | (with_reducible assumption) | refine bal ?_ _ | refine bset ?_ (by first | omega | (simp; done) | (simp; omega)) _ | refine bdr ?_ | refine bdrn ?_ _ | refine btr ?_ (by with_reducible assumption)))))
      (first
        | (go_at_call 30; go_split_ands; refine (lawFile_any _ _ _ _ _).mono ?_; rintro e w4 ⟨rfl, hb4⟩; have hz4 := hb4.size; (try simp at hz4))
        | (go_at_call 12; go_split_ands; refine (apply_any ao1 L1 c1 0 0 0 none 0 [] _ 1 [fC] _ ?_ (At.nil _ _ _) ?_ HZ1.out HWF.out).mono ?_; (intro i hi; refine (HAT.out i hi).below ?_; (repeat (first | exact Below.refl _ _ | (with_reducible assumption) | refine bal ?_ _ | refine bset ?_ (by first | omega | (simp; done) | (simp; omega)) _ | refine bdr ?_ | refine bdrn ?_ _ | refine btr ?_ (by with_reducible assumption)))); (first | exact at_one _ encF 9 _ encF_len fC _ rfl | exact (at_one _ encF 9 _ encF_len fC _ rfl).below (bal (Below.refl _ _) _) | exact at_one' _ encF 9 _ encF_len fC _ rfl (by simp)); rw [HA3.out]; rintro e w5 ⟨v, rfl, ⟨ao5, c5, rfl, hat5⟩, hb5⟩; have hz5 := hb5.size; (try simp at hz5); (try ((first | (have hT := (((Var.newDrew W4 #[.slice none 0 0, .slice none 0 0, .slice none 0 0, .slice none 0 0] 26).below hb4).alloc _).below hb5) | (have hT := (((Var.new W4 #[.slice none 0 0, .slice none 0 0, .slice none 0 0, .slice none 0 0] 26).below hb4).alloc _).below hb5) | (have hT := (((Var.newDrew W4 #[.slice none 0 0, .slice none 0 0, .slice none 0 0, .slice none 0 0] 26).below hb4).alloc _).drew.below hb5) | (have hT := ((Var.new w4 #[.slice none 0 0, .slice none 0 0, .slice none 0 0, .slice none 0 0] 26).alloc _).below hb5) | (have hT := ((Var.new w4 #[.slice none 0 0, .slice none 0 0, .slice none 0 0, .slice none 0 0] 26).alloc _).drew.below hb5) | (have hT := (Var.new' (b := w4.heap.size + 1) (w4.alloc _) #[.slice none 0 0, .slice none 0 0, .slice none 0 0, .slice none 0 0] 26 (by simp)).below hb5) | (have hT := (Var.new' (b := w4.heap.size + 1) (w4.alloc _) #[.slice none 0 0, .slice none 0 0, .slice none 0 0, .slice none 0 0] 26 (by simp)).drew.below hb5)); have tl := hT.lt; have t0 := hT.cell 0; have t1 := hT.cell 1; have t2 := hT.cell 2; have t3 := hT.cell 3; have y0 := hT.free 0; have y1 := hT.free 1; have y2 := hT.free 2; have y3 := hT.free 3; have HT := Lib.hid hT; clear hT))))
      all_goals (go_wp2_with fail; go_meet; refine ⟨_, ao5, c5, rfl, rfl, ?_, ?_⟩)
      all_goals first
        | exact laid_ver HT.out hat5
        | (with_reducible exact VerAt.of (Var.new _ _ _) (fun i hi => (hat5 i hi).below (bal (Below.refl _ _) _)))
        | (repeat (first | exact Below.refl _ _ | (with_reducible assumption) | refine bal ?_ _ | refine bset ?_ (by first | omega | (simp; done) | (simp; omega)) _ | refine bdr ?_ | refine bdrn ?_ _ | refine btr ?_ (by with_reducible assumption)))
    case rest =>
      obtain ⟨sb, ao7, c7, rfl, rfl, hver, hbc⟩ := hcut
      obtain ⟨W5, hW5⟩ : ∃ W5, W5 = wc := ⟨_, rfl⟩
      subst hW5
      have HB5 := Lib.hid (btr HB4.out hbc)
      have HV := Lib.hid hver
      have v0 := hver.var.cell 0
      have v1 := hver.var.cell 1
      have v2 := hver.var.cell 2
      have v3 := hver.var.cell 3
      clear hver hbc
      go_wp2_with (first
        | (go_at_call 21; refine (over_any ao7 L2 c7 1 ⟨#[98]⟩ ⟨#[122]⟩ _ HV.out.lists HZ2.out).mono ?_; rw [HO.out]; rintro e w6 ⟨ao8, c8, rfl, hat8, hb8⟩; have HV6 := Lib.hid (HV.out.below hb8); have x0 := HV6.out.var.cell 0; have x1 := HV6.out.var.cell 1; have x2 := HV6.out.var.cell 2; have x3 := HV6.out.var.cell 3)
        | (go_at_call 24; refine (ask_any ao7 L2 c7 ⟨#[100]⟩ _ HV6.out.lists HZ2.out).mono ?_; rw [HK.out]; rintro e w9 ⟨ao9, c9, rfl, hat9, hb9⟩; obtain ⟨b1, off1, hbl1, hix1, hcs1⟩ := idx_at (P := Try.prog) (hat8.below hb9) 23 50 Try.underlying23 Try.sizeOf50 (i := 0) (x := fA) rfl; obtain ⟨b2, off2, hbl2, hix2, hcs2⟩ := idx_at (P := Try.prog) hat9 23 50 Try.underlying23 Try.sizeOf50 (i := 0) (x := fC) rfl; have i1 : ∀ wx, (Instr.indexAt 23 (.slice ao8 2 c8) (.int .i64 0)).run Try.prog wx = .ok (.pointer (some ⟨b1, off1, none⟩)) wx := (fun wx => by simpa using hix1 .i64 wx); have i2 : ∀ wx, (Instr.indexAt 23 (.slice ao9 1 c9) (.int .i64 0)).run Try.prog wx = .ok (.pointer (some ⟨b2, off2, none⟩)) wx := (fun wx => by simpa using hix2 .i64 wx); have e1 : w9.cell? ⟨b1, off1 + 1, none⟩ = some (.int .u64 3) := (by simpa [fA] using (file_cells hcs1).2.1); have e2 : w9.cell? ⟨b2, off2 + 1, none⟩ = some (.int .u64 4) := (by simpa [fC] using (file_cells hcs2).2.1)))
      go_ret
      exact ⟨rfl, btr (btr HB5.out hb8) hb9⟩

end Go.Proofs.Ytjeanhaadbkncaa
