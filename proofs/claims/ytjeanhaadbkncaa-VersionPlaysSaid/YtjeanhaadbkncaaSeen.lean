/- A map of numbers that were seen; what may be together (the plain law); the check of one file by an edit. -/
import Derived.Test.YtjeanhaadbkncaaRefEdit
import Derived.Maps.OwnSet
namespace Go.Proofs.Ytjeanhaadbkncaa
open Go.RowKit Go.Maps

theorem nums_keyed : Keyed Try.prog 33 := int_keyed Try.underlying33
theorem plainElem_bool_inv {H : Type} {P : Program} {e : TypeId} (he : P.underlying e = some .bool) {v : Value} {z : DataW H × List MemPlace} (h : plainElem P e v = some z) : ∃ x : Bool, v = .bool x ∧ z = (.lit (.bool x), []) := by
  unfold plainElem at h
  rw [he] at h
  cases v <;> simp at h
  exact ⟨_, rfl, h.symm⟩

/-- Block mb of w is a map in which just these numbers are true. -/
def SeenM (w : World) (mb : Nat) (l : List Int) : Prop :=
  ∃ D : DataW Unit, w.ownsMap Try.prog 33 (plainElem Try.prog 4) mb l.length D ∧ IsMap D ∧ ∀ x : Int, (Lit.int .u64 x).wf = true → D.atKey (.int .u64 x) (.lit (.bool false)) = .lit (.bool (l.contains x))

theorem SeenM.made (w : World) : SeenM (w.alloc (.map #[] 0)) w.heap.size [] :=
  ⟨_, World.ownsMap_made _ _ _ _, isMap_empty, fun _ _ => rfl⟩
theorem SeenM.below {w w' : World} {mb : Nat} {l : List Int} (h : SeenM w mb l) (hb : Below w.heap.size w w') : SeenM w' mb l := by
  obtain ⟨D, h1, h2, h3⟩ := h
  exact ⟨D, h1.kept (row := none) ⟨hb.os, hb.tape, hb.output, hb.size, fun k hk _ => hb.block k hk⟩ (by simp), h2, h3⟩
theorem SeenM.lt {w : World} {mb : Nat} {l : List Int} (h : SeenM w mb l) : mb < w.heap.size := by
  obtain ⟨D, h1, _⟩ := h
  exact h1.lt
theorem SeenM.look {w : World} {mb : Nat} {l : List Int} (h : SeenM w mb l) {x : Int} (hx : (Lit.int .u64 x).wf = true) :
    (Instr.lookup 76 (.map (some mb)) (.int .u64 x) false).run Try.prog w = .ok (.bool (l.contains x)) w := by
  obtain ⟨D, h1, _, h3⟩ := h
  obtain ⟨v, ps, hrun, hv⟩ := h1.lookup (t := 76) nums_keyed Try.underlying76 (Try.zeroValue4 w) (plainElem_bool Try.underlying4 false) (keyOf_int_mk Try.underlying33 hx)
  obtain ⟨y, rfl, hy⟩ := plainElem_bool_inv Try.underlying4 hv
  rw [h3 x hx] at hy
  simp only [Prod.mk.injEq, DataW.lit.injEq, Lit.bool.injEq] at hy
  rw [hrun, hy.1]
theorem SeenM.put {w' : World} {mb : Nat} {l : List Int} {x : Int} {D : DataW Unit} (hx : (Lit.int .u64 x).wf = true) (h2 : IsMap D) (h3 : ∀ x : Int, (Lit.int .u64 x).wf = true → D.atKey (.int .u64 x) (.lit (.bool false)) = .lit (.bool (l.contains x)))
    (h : w'.ownsMap Try.prog 33 (plainElem Try.prog 4) mb (l.length + 1) (D.put (.int .u64 x) (.lit (.bool true)))) : SeenM w' mb (l ++ [x]) := by
  refine ⟨_, by rw [List.length_append]; exact h, h2.put _ _, fun y hy => ?_⟩
  by_cases e : y = x
  · subst e
    rw [atKey_put_same h2 (by trivial)]
    simp
  · rw [atKey_put_other (by intro h; cases h; exact e rfl), h3 y hy]
    simp [e]

/-- Numbers that a reader has told are in range. -/
def WfF (f : Fl) : Prop := (Lit.int .u64 f.nu).wf = true

/-- The numbers ahead of place i of level n. -/
def seenS (L : Nat → List Fl) (n i : Nat) : List Int := ((List.range n).flatMap fun k => (L k).map (·.nu)) ++ ((L n).take i).map (·.nu)
theorem seenS_step (L : Nat → List Fl) (n i : Nat) (f : Fl) (h : (L n)[i]? = some f) : seenS L n (i + 1) = seenS L n i ++ [f.nu] := by
  have : (L n).take (i + 1) = (L n).take i ++ [f] := by rw [List.take_add_one, h]; rfl
  simp [seenS, this]
theorem seenS_next (L : Nat → List Fl) (n : Nat) : seenS L (n + 1) 0 = seenS L n (L n).length := by
  simp [seenS, List.range_succ]
theorem seenS_len (L : Nat → List Fl) (n i : Nat) (hn : n < 4) (hsz : ∀ i, i < 4 → (L i).length ≤ 1000000) : (seenS L n i).length ≤ 5000000 := by
  have h0 := hsz 0 (by omega)
  have h1 := hsz 1 (by omega)
  have h2 := hsz 2 (by omega)
  have h3 := hsz 3 (by omega)
  have ht : ((L n).take i).length ≤ 1000000 := by have := hsz n hn; simp only [List.length_take]; omega
  rcases (show n = 0 ∨ n = 1 ∨ n = 2 ∨ n = 3 by omega) with rfl | rfl | rfl | rfl <;> simp [seenS, List.range_succ] at ht ⊢ <;> omega
/-- May a file stand behind the one ahead of it in its level? -/
def behindS (n : Nat) (p f : Fl) : Bool := if n = 0 then decide (f.nu < p.nu) else ltB p.lu f.su
/-- May the file at place i of level n be there? -/
def okAt (L : Nat → List Fl) (n i : Nat) (f : Fl) : Bool :=
  f.lv == (n : Int) && !((seenS L n i).contains f.nu) && fileS f == 0 && (i == 0 || match (L n)[i - 1]? with | some p => behindS n p f | none => true)
def OkV (L : Nat → List Fl) : Prop := ∀ n, n < 4 → ∀ (i : Nat) (f : Fl), (L n)[i]? = some f → okAt L n i f = true
open Classical in
/-- 0: files may be together; 140: not. -/
noncomputable def checkS (L : Nat → List Fl) : Int := if OkV L then 0 else 140
theorem checkS_ok {L : Nat → List Fl} (h : OkV L) : checkS L = 0 := if_pos h
theorem checkS_bad {L : Nat → List Fl} {n i : Nat} {f : Fl} (hn : n < 4) (hf : (L n)[i]? = some f) (h : okAt L n i f = false) : checkS L = 140 := by
  unfold checkS
  rw [if_neg]
  intro hok
  rw [hok n hn i f hf] at h
  cases h

/-- An edit that lays just one file. -/
theorem edit_one (f : Fl) (g : Nat) (w : World) (hf : At w encF 9 (some ⟨g, 0, none⟩) 1 [f]) :
    Calls Try.prog 31 #[.agg #[.int .u64 0, .int .u64 0, .int .u64 0, .slice none 0 0, .slice (some ⟨g, 0, none⟩) 1 1]] w fun e w' => e = .returned (.int .i64 (fileS f)) ∧ Below w.heap.size w w' := by
  refine (edit_any 0 0 0 none 0 [] (some ⟨g, 0, none⟩) 1 [f] w (At.nil _ _ _) hf).mono fun e w' h => ⟨?_, h.2⟩
  rw [h.1]
  refine ret_int ?_
  unfold editS
  rw [if_neg (by simp), if_neg (by simp), if_neg (by simp)]
  simp only [List.map_nil, firstErr, List.map_cons]
  by_cases hh : fileS f = 0 <;> simp [hh]

end Go.Proofs.Ytjeanhaadbkncaa
