/- How this seat's script is opened. -/
import Derived.Test.YteofjdiflpddbaaSame20
import Derived.Test.YteofjdiflpddbaaClose
import Derived.Deep.Slices
import Derived.Deep.Strs
import Derived.OpenShut
import Derived.SizedLaws
namespace Go.Proofs.Yteofjdiflpddbaa
open Go.ChangeShapes Go.WideShapes Go.ChangeAt Go.RowKit Go.Deep

theorem Try.cellsCall : Try.prog.cellsOf 32 = 3 := by kernel_rfl
theorem Try.cellsInt : Try.prog.cellsOf 3 = 1 := by kernel_rfl
theorem Try.cellsNum : Try.prog.cellsOf 30 = 1 := by kernel_rfl

section
variable {H : Type} {enc : TypeId × Value → H} {w : World} {base : Nat} {spare : Nat → Bool} {held : Bool}

set_option maxRecDepth 100000 in
theorem open_call {fuel : Nat} {cs : List Value} {x : DataW H × List MemPlace} (h : DataW.trod enc Try.prog w base spare held fuel 32 cs = some x) : ∃ f : Cl, cs = encC f ∧ WfC f := by
  obtain ⟨y0, y1, y2, n, _, hl, h0, h1, h2⟩ := trod_struct3 Try.underlying32 h
  rw [Try.cellsCall] at hl
  match cs, hl with
  | [c0, c1, c2], _ =>
    simp only [Try.cellsNum, Try.cellsInt, List.drop_zero, List.drop_succ_cons, List.take_succ_cons, List.take_zero] at h0 h1 h2
    obtain ⟨k, e0, _⟩ := DataW.trod_int Try.underlying3 h0
    obtain ⟨s, e1, _, w1⟩ := DataW.trod_int Try.underlying30 h1
    obtain ⟨i, e2, _, w2⟩ := DataW.trod_int Try.underlying3 h2
    cases e0; cases e1; cases e2
    exact ⟨⟨k, s, i⟩, rfl, w1, w2⟩

/-- A slice whose elements are so many cells: what it reads as. -/
theorem open_rows {α : Type} {enc' : α → List Value} {k : Nat} {good : α → Prop} {t e : TypeId} (ht : Try.prog.underlying t = some (.slice e)) (hc : Try.prog.cellsOf e = k) (hk : ∀ x, (enc' x).length = k) (hk0 : 0 < k)
    (hel : ∀ (fuel : Nat) (cs : List Value) (x : DataW H × List MemPlace), DataW.trod enc Try.prog w base spare held fuel e cs = some x → ∃ f : α, cs = enc' f ∧ good f)
    {fuel : Nat} {cs : List Value} {x : DataW H × List MemPlace} (h : DataW.trod enc Try.prog w base spare held fuel t cs = some x) :
    ∃ (ao : Option Addr) (c : Nat) (xs : List α), cs = [.slice ao xs.length c] ∧ At w enc' k ao c xs ∧ (∀ f ∈ xs, good f) ∧ (ao = none → x.1 = .nil) ∧ (xs ≠ [] → ∃ el sp, x.1 = .slice el sp ∧ el.length = xs.length) := by
  rcases open_slice ht h with ⟨rfl, rfl⟩ | ⟨a, len, cap, m, n, D, Pl, rfl, hb, hl, hm, hmm, rfl, hi⟩
  · exact ⟨none, 0, [], rfl, At.nil _ _ _, by simp, fun _ => rfl, by simp⟩
  · have hml : len ≤ m := by rw [hmm]; split <;> omega
    have key : ∀ i, i < len → ∃ f : α, good f ∧ ∀ j u, (enc' f)[j]? = some u → w.cell? (a.add (i * k + j)) = some u := by
      intro i him
      obtain ⟨cs', hcs, ht'⟩ := hi i (by omega)
      obtain ⟨f, rfl, hg⟩ := hel _ _ _ ht'
      rw [hc] at hcs
      obtain ⟨_, hlen, hat⟩ := World.cells?_some hcs
      refine ⟨f, hg, fun j u hu => ?_⟩
      have hj : j < k := by rw [← hk f]; exact (List.getElem?_eq_some_iff.1 hu).1
      have := hat j hj
      rw [hu, add_add] at this
      exact this
    refine ⟨some a, cap, List.ofFn fun i : Fin len => Classical.choose (key i i.2), by simp, ⟨by simpa using hl, hm, by simp, fun i f hf => ?_⟩, fun f hf => ?_, by simp, fun _ => ⟨_, _, rfl, by simp⟩⟩
    · have hil : i < len := by have := (List.getElem?_eq_some_iff.1 hf).1; simpa using this
      have hfi : f = Classical.choose (key i hil) := by
        rw [List.getElem?_ofFn, dif_pos hil] at hf
        exact (Option.some.inj hf).symm
      have h0 : 0 < len := by omega
      have c0 := (Classical.choose_spec (key 0 h0)).2 0 _ (List.getElem?_eq_getElem (by rw [hk]; exact hk0))
      obtain ⟨u0, c0⟩ : ∃ u0, w.cell? (a.add (0 * k + 0)) = some u0 := ⟨_, c0⟩
      rw [Nat.zero_mul, Nat.add_zero] at c0
      have hsp : a.spot = none := by
        unfold World.cell? Addr.add at c0
        simp only [if_true] at c0
        cases hs : a.spot with
        | none => rfl
        | some q =>
          rw [hs] at c0
          split at c0 <;> simp at c0
      obtain ⟨b, off, sp⟩ := a
      dsimp only at hsp
      subst hsp
      refine ⟨b, off, rfl, ?_, fun j u hu => ?_⟩
      · have := World.block_lt_of_cell? w _ c0
        simpa [Addr.add] using this
      · have := (Classical.choose_spec (key i hil)).2 j u (by rw [← hfi]; exact hu)
        rw [Addr.add_lit] at this
        rw [Nat.add_assoc]
        exact this
    · obtain ⟨i, rfl⟩ := List.mem_ofFn.1 hf
      exact (Classical.choose_spec (key i i.2)).1

theorem open_calls {fuel : Nat} {cs : List Value} {x : DataW H × List MemPlace} (h : DataW.trod enc Try.prog w base spare held fuel 23 cs = some x) :
    ∃ (ao : Option Addr) (c : Nat) (xs : List Cl), cs = [.slice ao xs.length c] ∧ At w encC 3 ao c xs ∧ (∀ f ∈ xs, WfC f) ∧ (xs ≠ [] → ∃ el sp, x.1 = .slice el sp ∧ el.length = xs.length) := by
  obtain ⟨ao, c, xs, h1, h2, h3, _, h4⟩ := open_rows Try.underlying23 Try.cellsCall encC_len (by omega) (fun _ _ _ h => open_call h) h
  exact ⟨ao, c, xs, h1, h2, h3, h4⟩
end

end Go.Proofs.Yteofjdiflpddbaa
