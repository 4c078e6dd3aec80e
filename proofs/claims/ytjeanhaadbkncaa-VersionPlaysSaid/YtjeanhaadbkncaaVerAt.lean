/- A variable that holds a version. -/
import Derived.Test.YtjeanhaadbkncaaDelLaw
import Derived.Test.YtjeanhaadbkncaaApply
namespace Go.Proofs.Ytjeanhaadbkncaa
open Go.RowKit

/-- The version at block sb holds these files. -/
structure VerAt (w : World) (sb : Nat) (L : Nat → List Fl) (ao : Nat → Option Addr) (c : Nat → Nat) : Prop where
  var : Var w sb #[.slice (ao 0) (L 0).length (c 0), .slice (ao 1) (L 1).length (c 1), .slice (ao 2) (L 2).length (c 2), .slice (ao 3) (L 3).length (c 3)] 26
  lists : ∀ i, i < 4 → At w encF 9 (ao i) (c i) (L i)
  ne : ∀ i, i < 4 → ∀ (j : Nat) (x : Fl), (L i)[j]? = some x → ∀ b, ao i = some b → b.block ≠ sb
theorem VerAt.below {w w' : World} {sb : Nat} {L : Nat → List Fl} {ao : Nat → Option Addr} {c : Nat → Nat} (h : VerAt w sb L ao c) (hb : Below w.heap.size w w') : VerAt w' sb L ao c :=
  ⟨h.var.below hb, fun i hi => (h.lists i hi).below hb, h.ne⟩
theorem VerAt.cell {w : World} {sb : Nat} {L : Nat → List Fl} {ao : Nat → Option Addr} {c : Nat → Nat} (h : VerAt w sb L ao c) {k : Nat} (hk : k < 4) : w.cell? ⟨sb, k, none⟩ = some (.slice (ao k) (L k).length (c k)) :=
  (h.var.cell k).trans (four_get (fun k => .slice (ao k) (L k).length (c k)) k hk)
theorem VerAt.store {w : World} {sb : Nat} {L : Nat → List Fl} {ao : Nat → Option Addr} {c : Nat → Nat} (h : VerAt w sb L ao c) {k : Nat} (hk : k < 4) {a : Option Addr} {d : Nat} {l : List Fl} (hat : At w encF 9 a d l) (hne : ∀ (j : Nat) (x : Fl), l[j]? = some x → ∀ b, a = some b → b.block ≠ sb) :
    VerAt (w.setCell ⟨sb, k, none⟩ (.slice a l.length d)) sb (updG L k l) (updG ao k a) (updG c k d) where
  var := by
    have := h.var.set k (.slice a l.length d)
    have e : (#[.slice (ao 0) (L 0).length (c 0), .slice (ao 1) (L 1).length (c 1), .slice (ao 2) (L 2).length (c 2), .slice (ao 3) (L 3).length (c 3)] : Array Value).setIfInBounds k (.slice a l.length d) =
        #[.slice (updG ao k a 0) (updG L k l 0).length (updG c k d 0), .slice (updG ao k a 1) (updG L k l 1).length (updG c k d 1), .slice (updG ao k a 2) (updG L k l 2).length (updG c k d 2), .slice (updG ao k a 3) (updG L k l 3).length (updG c k d 3)] := by
      rcases (show k = 0 ∨ k = 1 ∨ k = 2 ∨ k = 3 by omega) with rfl | rfl | rfl | rfl <;> simp [updG]
    rw [← e]
    exact this
  lists := fun i hi => by
    by_cases e : i = k
    · subst e; rw [updG_same, updG_same, updG_same]; exact hat.setFar _ hne
    · rw [updG_other _ _ e, updG_other _ _ e, updG_other _ _ e]; exact (h.lists i hi).setFar _ (h.ne i hi)
  ne := fun i hi j x hx b hb => by
    by_cases e : i = k
    · subst e; rw [updG_same] at hb hx; exact hne j x hx b hb
    · rw [updG_other _ _ e] at hb hx; exact h.ne i hi j x hx b hb

/-- A list of files does not lie where a version lies. -/
theorem At.apartV {w : World} {r : Nat} {T : TypeId} {a0 a1 a2 a3 : Option Addr} {n0 n1 n2 n3 c0 c1 c2 c3 : Nat} {ao : Option Addr} {c : Nat} {xs : List Fl} (h : At w encF 9 ao c xs) (hv : Var w r #[.slice a0 n0 c0, .slice a1 n1 c1, .slice a2 n2 c2, .slice a3 n3 c3] T) :
    ∀ (i : Nat) (x : Fl), xs[i]? = some x → ∀ b, ao = some b → b.block ≠ r := by
  intro i x hx b hb e
  obtain ⟨b', off, hb', hlt, hc⟩ := h.cells i x hx
  have h0 := hc 0 _ rfl
  rw [hb] at hb'
  cases hb'
  simp only at e
  subst e
  rw [hv.cell] at h0
  have hm := (Array.getElem?_eq_some_iff.1 h0).1
  simp at hm
  rcases (show off + i * 9 = 0 ∨ off + i * 9 = 1 ∨ off + i * 9 = 2 ∨ off + i * 9 = 3 by omega) with q | q | q | q <;> rw [q] at h0 <;> simp at h0
theorem VerAt.of {w : World} {sb : Nat} {L : Nat → List Fl} {ao : Nat → Option Addr} {c : Nat → Nat}
    (hv : Var w sb #[.slice (ao 0) (L 0).length (c 0), .slice (ao 1) (L 1).length (c 1), .slice (ao 2) (L 2).length (c 2), .slice (ao 3) (L 3).length (c 3)] 26) (h : ∀ i, i < 4 → At w encF 9 (ao i) (c i) (L i)) : VerAt w sb L ao c :=
  ⟨hv, h, fun i hi => (h i hi).apartV hv⟩

end Go.Proofs.Ytjeanhaadbkncaa
