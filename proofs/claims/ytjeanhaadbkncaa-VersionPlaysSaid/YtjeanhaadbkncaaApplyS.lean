/- What an edit makes of files: the plain law that both walks meet. -/
import Derived.Test.YtjeanhaadbkncaaDrop
import Derived.Test.YtjeanhaadbkncaaWith
import Derived.Test.YtjeanhaadbkncaaSeen
namespace Go.Proofs.Ytjeanhaadbkncaa
open Go.RowKit

def noneV : Nat → List Fl := fun _ => []
/-- Files without those that are gone; none: one is not there. -/
def delsS : (Nat → List Fl) → List Gn → Option (Nat → List Fl)
  | L, [] => some L
  | L, g :: gs => match dropI (L g.lv.toNat) g.nu with
    | none => none
    | some i => delsS (updG L g.lv.toNat ((L g.lv.toNat).take i ++ (L g.lv.toNat).drop (i + 1))) gs
/-- Files with those that are laid; or an error's number. -/
def addsS : (Nat → List Fl) → List Fl → Int × (Nat → List Fl)
  | L, [] => (0, L)
  | L, f :: fs =>
    if thereS L f.nu = true then (142, noneV)
    else if (decide (0 < f.lv) && !(overS (L f.lv.toNat) f.su f.lu).isEmpty) = true then (143, noneV)
    else addsS (updG L f.lv.toNat (putS (L f.lv.toNat) f)) fs
noncomputable def applyS (L : Nat → List Fl) (log nx la : Int) (ds : List Gn) (fs : List Fl) : Int × (Nat → List Fl) :=
  if checkS L ≠ 0 then (140, noneV) else if editS log nx la ds fs ≠ 0 then (editS log nx la ds fs, noneV)
  else match delsS L ds with | none => (141, noneV) | some L1 => addsS L1 fs

theorem drop_cons {α : Type} {l : List α} {n : Nat} {x : α} (h : l[n]? = some x) : l.drop n = x :: l.drop (n + 1) := by
  obtain ⟨hl, rfl⟩ := List.getElem?_eq_some_iff.1 h
  exact List.drop_eq_getElem_cons hl
theorem delsS_none {L Ln : Nat → List Fl} {ds : List Gn} {n : Nat} {g : Gn} (h : delsS L ds = delsS Ln (ds.drop n)) (hg : ds[n]? = some g) (hk : dropI (Ln g.lv.toNat) g.nu = none) : delsS L ds = none := by
  rw [h, drop_cons hg, delsS, hk]
theorem delsS_some {L Ln : Nat → List Fl} {ds : List Gn} {n i : Nat} {g : Gn} (h : delsS L ds = delsS Ln (ds.drop n)) (hg : ds[n]? = some g) (hk : dropI (Ln g.lv.toNat) g.nu = some i) :
    delsS L ds = delsS (updG Ln g.lv.toNat ((Ln g.lv.toNat).take i ++ (Ln g.lv.toNat).drop (i + 1))) (ds.drop (n + 1)) := by
  rw [h, drop_cons hg, delsS, hk]
theorem delsS_end {L Ln : Nat → List Fl} {ds : List Gn} (h : delsS L ds = delsS Ln (ds.drop ds.length)) : delsS L ds = some Ln := by
  rw [h, List.drop_length, delsS]
theorem addsS_there {L Ln : Nat → List Fl} {fs : List Fl} {n : Nat} {f : Fl} (h : addsS L fs = addsS Ln (fs.drop n)) (hf : fs[n]? = some f) (ht : thereS Ln f.nu = true) : addsS L fs = (142, noneV) := by
  rw [h, drop_cons hf, addsS, if_pos ht]
theorem addsS_over {L Ln : Nat → List Fl} {fs : List Fl} {n : Nat} {f : Fl} (h : addsS L fs = addsS Ln (fs.drop n)) (hf : fs[n]? = some f) (ht : thereS Ln f.nu = false) (ho : (decide (0 < f.lv) && !(overS (Ln f.lv.toNat) f.su f.lu).isEmpty) = true) : addsS L fs = (143, noneV) := by
  rw [h, drop_cons hf, addsS, if_neg (by simp [ht]), if_pos ho]
theorem addsS_put {L Ln : Nat → List Fl} {fs : List Fl} {n : Nat} {f : Fl} (h : addsS L fs = addsS Ln (fs.drop n)) (hf : fs[n]? = some f) (ht : thereS Ln f.nu = false) (ho : (decide (0 < f.lv) && !(overS (Ln f.lv.toNat) f.su f.lu).isEmpty) = false) :
    addsS L fs = addsS (updG Ln f.lv.toNat (putS (Ln f.lv.toNat) f)) (fs.drop (n + 1)) := by
  rw [h, drop_cons hf, addsS, if_neg (by simp [ht]), if_neg (by simp [ho])]
theorem addsS_end {L Ln : Nat → List Fl} {fs : List Fl} (h : addsS L fs = addsS Ln (fs.drop fs.length)) : addsS L fs = (0, Ln) := by
  rw [h, List.drop_length, addsS]

theorem firstErr_all : ∀ (l : List Int), firstErr l = 0 → ∀ x ∈ l, x = 0
  | [], _, x, h => by simp at h
  | y :: l, h, x, hx => by
    unfold firstErr at h
    by_cases hy : y = 0
    · rw [if_neg (by simp [hy])] at h
      rcases List.mem_cons.1 hx with rfl | hx
      · exact hy
      · exact firstErr_all l h x hx
    · rw [if_pos hy] at h
      exact absurd h hy
theorem placeS_zero {l n : Int} (h : placeS l n = 0) : 0 ≤ l ∧ l < 4 := by
  unfold placeS at h
  by_cases h1 : l < 0 ∨ 4 ≤ l
  · rw [if_pos h1] at h; cases h
  · omega
theorem fileS_zero {f : Fl} (h : fileS f = 0) : 0 ≤ f.lv ∧ f.lv < 4 := by
  unfold fileS at h
  by_cases h1 : placeS f.lv f.nu ≠ 0
  · rw [if_pos h1] at h; exact absurd h h1
  · exact placeS_zero (n := f.nu) (by omega)
theorem editS_zero {log nx la : Int} {ds : List Gn} {fs : List Fl} (h : editS log nx la ds fs = 0) :
    ds.length ≤ 20000 ∧ fs.length ≤ 100 ∧ (∀ g ∈ ds, 0 ≤ g.lv ∧ g.lv < 4) ∧ ∀ f ∈ fs, 0 ≤ f.lv ∧ f.lv < 4 := by
  unfold editS at h
  by_cases h1 : 20000 < ds.length ∨ 100 < fs.length
  · rw [if_pos h1] at h; cases h
  rw [if_neg h1] at h
  by_cases h2 : 1099511627776 < log ∨ 1099511627776 < nx
  · rw [if_pos h2] at h; cases h
  rw [if_neg h2] at h
  by_cases h3 : 72057594037927935 < la
  · rw [if_pos h3] at h; cases h
  rw [if_neg h3] at h
  by_cases h4 : firstErr (ds.map placeG) ≠ 0
  · rw [if_pos h4] at h; exact absurd h h4
  rw [if_neg h4] at h
  refine ⟨by omega, by omega, fun g hg => ?_, fun f hf => ?_⟩
  · exact placeS_zero (firstErr_all _ (by simpa using h4) (placeG g) (List.mem_map_of_mem hg))
  · exact fileS_zero (firstErr_all _ h (fileS f) (List.mem_map_of_mem hf))

theorem dropI_len {xs : List Fl} {num : Int} {i : Nat} (_ : dropI xs num = some i) : (xs.take i ++ xs.drop (i + 1)).length ≤ xs.length := by
  simp; omega
theorem putS_len (xs : List Fl) (f : Fl) : (putS xs f).length = xs.length + 1 := by
  have := putI_le xs f
  simp [putS, insS]; omega
theorem updG_len {L : Nat → List Fl} {k : Nat} {l : List Fl} {B C : Nat} (h : ∀ i, i < 4 → (L i).length ≤ B) (hl : l.length ≤ C) (hBC : B ≤ C) : ∀ i, i < 4 → (updG L k l i).length ≤ C := by
  intro i hi
  by_cases e : i = k
  · subst e; rw [updG_same]; exact hl
  · rw [updG_other _ _ e]; exact Nat.le_trans (h i hi) hBC

end Go.Proofs.Ytjeanhaadbkncaa
