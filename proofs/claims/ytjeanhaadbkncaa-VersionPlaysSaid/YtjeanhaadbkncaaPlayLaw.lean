/- Plain law: files behind an edit are no more than a hundred more, and well formed. -/
import Derived.Test.YtjeanhaadbkncaaApplyS
namespace Go.Proofs.Ytjeanhaadbkncaa
open Go.RowKit

theorem delsS_mem : ∀ {ds : List Gn} {L L1 : Nat → List Fl}, delsS L ds = some L1 → ∀ i, (∀ f ∈ L1 i, f ∈ L i) ∧ (L1 i).length ≤ (L i).length
  | [], L, L1, h, i => by
    rw [delsS] at h
    cases h
    exact ⟨fun f hf => hf, Nat.le_refl _⟩
  | g :: gs, L, L1, h, i => by
    rw [delsS] at h
    cases hd : dropI (L g.lv.toNat) g.nu with
    | none => rw [hd] at h; cases h
    | some k =>
      rw [hd] at h
      dsimp only at h
      obtain ⟨h1, h2⟩ := delsS_mem h i
      by_cases e : i = g.lv.toNat
      · subst e
        rw [updG_same] at h1 h2
        refine ⟨fun f hf => ?_, Nat.le_trans h2 (dropI_len hd)⟩
        rcases List.mem_append.1 (h1 f hf) with hm | hm
        · exact List.mem_of_mem_take hm
        · exact List.mem_of_mem_drop hm
      · rw [updG_other _ _ e] at h1 h2
        exact ⟨h1, h2⟩
theorem mem_insS {xs : List Fl} {f x : Fl} (h : x ∈ putS xs f) : x ∈ xs ∨ x = f := by
  unfold putS insS at h
  simp only [List.mem_append, List.mem_cons] at h
  rcases h with h | h | h
  · exact .inl (List.mem_of_mem_take h)
  · exact .inr h
  · exact .inl (List.mem_of_mem_drop h)
theorem addsS_mem : ∀ {fs : List Fl} {L : Nat → List Fl}, ∀ i, (∀ f ∈ (addsS L fs).2 i, f ∈ L i ∨ f ∈ fs) ∧ ((addsS L fs).2 i).length ≤ (L i).length + fs.length
  | [], L, i => by
    rw [addsS]
    exact ⟨fun f hf => .inl hf, by simp⟩
  | g :: gs, L, i => by
    rw [addsS]
    split
    · exact ⟨fun f hf => by simp [noneV] at hf, by simp [noneV]⟩
    split
    · exact ⟨fun f hf => by simp [noneV] at hf, by simp [noneV]⟩
    obtain ⟨h1, h2⟩ := addsS_mem (fs := gs) (L := updG L g.lv.toNat (putS (L g.lv.toNat) g)) i
    by_cases e : i = g.lv.toNat
    · subst e
      rw [updG_same] at h1 h2
      rw [putS_len] at h2
      refine ⟨fun f hf => ?_, by rw [List.length_cons]; omega⟩
      rcases h1 f hf with hm | hm
      · rcases mem_insS hm with hm | rfl
        · exact .inl hm
        · exact .inr List.mem_cons_self
      · exact .inr (List.mem_cons_of_mem _ hm)
    · rw [updG_other _ _ e] at h1 h2
      exact ⟨fun f hf => (h1 f hf).imp_right (List.mem_cons_of_mem _), by rw [List.length_cons]; omega⟩
theorem applyS_good {L : Nat → List Fl} {log nx la : Int} {ds : List Gn} {fs : List Fl} {B : Nat} (hsz : ∀ i, i < 4 → (L i).length ≤ B) (hwf : ∀ i, i < 4 → ∀ f ∈ L i, WfF f) (hfs : ∀ f ∈ fs, WfF f) :
    (∀ i, i < 4 → ((applyS L log nx la ds fs).2 i).length ≤ B + 100) ∧ ∀ i, i < 4 → ∀ f ∈ (applyS L log nx la ds fs).2 i, WfF f := by
  unfold applyS
  split
  · exact ⟨fun i _ => by simp [noneV], fun i _ f hf => by simp [noneV] at hf⟩
  split
  · exact ⟨fun i _ => by simp [noneV], fun i _ f hf => by simp [noneV] at hf⟩
  rename_i h1 h2
  have hed : editS log nx la ds fs = 0 := by omega
  have hfl := (editS_zero hed).2.1
  cases hd : delsS L ds with
  | none => exact ⟨fun i _ => by simp [noneV], fun i _ f hf => by simp [noneV] at hf⟩
  | some L1 =>
    dsimp only
    refine ⟨fun i hi => ?_, fun i hi f hf => ?_⟩
    · have a1 := (delsS_mem hd i).2
      have a2 := (addsS_mem (fs := fs) (L := L1) i).2
      have a3 := hsz i hi
      omega
    · rcases (addsS_mem (fs := fs) (L := L1) i).1 f hf with hm | hm
      · exact hwf i hi f ((delsS_mem hd i).1 f hm)
      · exact hfs f hm

end Go.Proofs.Ytjeanhaadbkncaa
