/- How this seat's arguments are opened: a version, files, edits. -/
import Derived.Test.YtjeanhaadbkncaaClose
import Derived.Test.YtjeanhaadbkncaaSeen
import Derived.Test.YtjeanhaadbkncaaSame
import Derived.Deep.Slices
import Derived.Deep.Strs
import Derived.OpenShut
import Derived.SizedLaws
namespace Go.Proofs.Ytjeanhaadbkncaa
open Go.ChangeShapes Go.WideShapes Go.ChangeAt Go.RowKit Go.Deep

theorem Try.cellsFile : Try.prog.cellsOf 50 = 9 := by kernel_rfl
theorem Try.cellsKey : Try.prog.cellsOf 48 = 3 := by kernel_rfl
theorem Try.cellsGone : Try.prog.cellsOf 52 = 2 := by kernel_rfl
theorem Try.cellsVersion : Try.prog.cellsOf 26 = 4 := by kernel_rfl
theorem Try.cellsLevels : Try.prog.cellsOf 24 = 4 := by kernel_rfl
theorem Try.cellsFiles : Try.prog.cellsOf 23 = 1 := by kernel_rfl
theorem Try.cellsGones : Try.prog.cellsOf 34 = 1 := by kernel_rfl
theorem Try.cellsInt : Try.prog.cellsOf 3 = 1 := by kernel_rfl
theorem Try.cellsNum : Try.prog.cellsOf 33 = 1 := by kernel_rfl
theorem Try.cellsStr : Try.prog.cellsOf 9 = 1 := by kernel_rfl
theorem Try.cellsEdit : Try.prog.cellsOf 36 = 5 := by kernel_rfl

section
variable {H : Type} {enc : TypeId × Value → H} {w : World} {base : Nat} {spare : Nat → Bool} {held : Bool}

set_option maxRecDepth 100000 in
theorem open_key {fuel : Nat} {cs : List Value} {x : DataW H × List MemPlace} (h : DataW.trod enc Try.prog w base spare held fuel 48 cs = some x) : ∃ (u : ByteArray) (s k : Int), cs = [.string u, .int .u64 s, .int .i64 k] := by
  obtain ⟨y0, y1, y2, n, _, hl, h0, h1, h2⟩ := trod_struct3 Try.underlying48 h
  rw [Try.cellsKey] at hl
  match cs, hl with
  | [c0, c1, c2], _ =>
    simp only [Try.cellsStr, Try.cellsNum, Try.cellsInt, List.drop_zero, List.drop_succ_cons, List.take_succ_cons, List.take_zero] at h0 h1 h2
    obtain ⟨u, hu, _⟩ := DataW.trod_string Try.underlying9 h0
    obtain ⟨s, hs, _⟩ := DataW.trod_int Try.underlying33 h1
    obtain ⟨k, hk, _⟩ := DataW.trod_int Try.underlying3 h2
    cases hu; cases hs; cases hk
    exact ⟨u, s, k, rfl⟩

set_option maxRecDepth 100000 in
theorem open_file {fuel : Nat} {cs : List Value} {x : DataW H × List MemPlace} (h : DataW.trod enc Try.prog w base spare held fuel 50 cs = some x) : ∃ f : Fl, cs = encF f ∧ WfF f := by
  obtain ⟨xs, n, _, _, hl, hlen, hf⟩ := DataW.trod_struct Try.underlying50 h
  rw [Try.cellsFile] at hl
  match cs, hl, xs, hlen with
  | [c0, c1, c2, c3, c4, c5, c6, c7, c8], _, [y0, y1, y2, y3, y4], _ =>
    have h0 := hf 0 _ rfl
    have h1 := hf 1 _ rfl
    have h2 := hf 2 _ rfl
    have h3 := hf 3 _ rfl
    have h4 := hf 4 _ rfl
    simp only [List.getElem?_cons_zero, List.getElem?_cons_succ] at h0 h1 h2 h3 h4
    obtain ⟨lv, e0, _⟩ := DataW.trod_int Try.underlying3 h0
    obtain ⟨nu, e1, _, wn⟩ := DataW.trod_int Try.underlying33 h1
    obtain ⟨sz, e2, _⟩ := DataW.trod_int Try.underlying3 h2
    obtain ⟨su, ss, sk, e3⟩ := open_key h3
    obtain ⟨lu, ls, lk, e4⟩ := open_key h4
    cases e0; cases e1; cases e2; cases e3; cases e4
    exact ⟨⟨lv, nu, sz, su, ss, sk, lu, ls, lk⟩, rfl, wn⟩

set_option maxRecDepth 100000 in
theorem open_gone {fuel : Nat} {cs : List Value} {x : DataW H × List MemPlace} (h : DataW.trod enc Try.prog w base spare held fuel 52 cs = some x) : ∃ g : Gn, cs = encG g := by
  obtain ⟨y0, y1, n, _, hl, h0, h1⟩ := trod_struct2 Try.underlying52 h
  rw [Try.cellsGone] at hl
  match cs, hl with
  | [c0, c1], _ =>
    simp only [Try.cellsNum, Try.cellsInt, List.drop_zero, List.drop_succ_cons, List.take_succ_cons, List.take_zero] at h0 h1
    obtain ⟨lv, e0, _⟩ := DataW.trod_int Try.underlying3 h0
    obtain ⟨nu, e1, _⟩ := DataW.trod_int Try.underlying33 h1
    cases e0; cases e1
    exact ⟨⟨lv, nu⟩, rfl⟩

/-- A slice whose elements are so many cells: what it reads as. -/
theorem open_rows {α : Type} {enc' : α → List Value} {k : Nat} {good : α → Prop} {t e : TypeId} (ht : Try.prog.underlying t = some (.slice e)) (hc : Try.prog.cellsOf e = k) (hk : ∀ x, (enc' x).length = k) (hk0 : 0 < k)
    (hel : ∀ (fuel : Nat) (cs : List Value) (x : DataW H × List MemPlace), DataW.trod enc Try.prog w base spare held fuel e cs = some x → ∃ f : α, cs = enc' f ∧ good f)
    {fuel : Nat} {cs : List Value} {x : DataW H × List MemPlace} (h : DataW.trod enc Try.prog w base spare held fuel t cs = some x) :
    ∃ (ao : Option Addr) (c : Nat) (xs : List α), cs = [.slice ao xs.length c] ∧ At w enc' k ao c xs ∧ (∀ f ∈ xs, good f) ∧ (ao = none → x.1 = .nil) ∧ (xs ≠ [] → ∃ el sp, x.1 = .slice el sp ∧ el.length = xs.length) := by
  rcases open_slice ht h with ⟨rfl, rfl⟩ | ⟨a, len, cap, m, n, D, Pl, rfl, hb, hl, hm, hmm, rfl, hi⟩
  · exact ⟨none, 0, [], rfl, At.nil _ _ _, by simp, fun _ => rfl, by simp⟩
  · have hml : len ≤ m := by rw [hmm]; split <;> omega
    have key : ∀ i, i < len → ∃ f : α, good f ∧ ∀ j u, (enc' f)[j]? = some u → w.cell? (a.add (i * k + j)) = some u := by
      intro i him
      obtain ⟨cs', hcs, ht'⟩ := hi i (by omega)
      obtain ⟨f, rfl, hg⟩ := hel _ _ _ ht'
      rw [hc] at hcs
      obtain ⟨_, hlen, hat⟩ := World.cells?_some hcs
      refine ⟨f, hg, fun j u hu => ?_⟩
      have hj : j < k := by rw [← hk f]; exact (List.getElem?_eq_some_iff.1 hu).1
      have := hat j hj
      rw [hu, add_add] at this
      exact this
    refine ⟨some a, cap, List.ofFn fun i : Fin len => Classical.choose (key i i.2), by simp, ⟨by simpa using hl, hm, by simp, fun i f hf => ?_⟩, fun f hf => ?_, by simp, fun _ => ⟨_, _, rfl, by simp⟩⟩
    · have hil : i < len := by have := (List.getElem?_eq_some_iff.1 hf).1; simpa using this
      have hfi : f = Classical.choose (key i hil) := by
        rw [List.getElem?_ofFn, dif_pos hil] at hf
        exact (Option.some.inj hf).symm
      have h0 : 0 < len := by omega
      have c0 := (Classical.choose_spec (key 0 h0)).2 0 _ (List.getElem?_eq_getElem (by rw [hk]; exact hk0))
      obtain ⟨u0, c0⟩ : ∃ u0, w.cell? (a.add (0 * k + 0)) = some u0 := ⟨_, c0⟩
      rw [Nat.zero_mul, Nat.add_zero] at c0
      have hsp : a.spot = none := by
        unfold World.cell? Addr.add at c0
        simp only [if_true] at c0
        cases hs : a.spot with
        | none => rfl
        | some q =>
          rw [hs] at c0
          split at c0 <;> simp at c0
      obtain ⟨b, off, sp⟩ := a
      dsimp only at hsp
      subst hsp
      refine ⟨b, off, rfl, ?_, fun j u hu => ?_⟩
      · have := World.block_lt_of_cell? w _ c0
        simpa [Addr.add] using this
      · have := (Classical.choose_spec (key i hil)).2 j u (by rw [← hfi]; exact hu)
        rw [Addr.add_lit] at this
        rw [Nat.add_assoc]
        exact this
    · obtain ⟨i, rfl⟩ := List.mem_ofFn.1 hf
      exact (Classical.choose_spec (key i i.2)).1

theorem open_files {fuel : Nat} {cs : List Value} {x : DataW H × List MemPlace} (h : DataW.trod enc Try.prog w base spare held fuel 23 cs = some x) :
    ∃ (ao : Option Addr) (c : Nat) (xs : List Fl), cs = [.slice ao xs.length c] ∧ At w encF 9 ao c xs ∧ (∀ f ∈ xs, WfF f) ∧ (xs ≠ [] → ∃ el sp, x.1 = .slice el sp ∧ el.length = xs.length) := by
  obtain ⟨ao, c, xs, h1, h2, h3, _, h4⟩ := open_rows Try.underlying23 Try.cellsFile encF_len (by omega) (fun _ _ _ h => open_file h) h
  exact ⟨ao, c, xs, h1, h2, h3, h4⟩
theorem open_gones {fuel : Nat} {cs : List Value} {x : DataW H × List MemPlace} (h : DataW.trod enc Try.prog w base spare held fuel 34 cs = some x) :
    ∃ (ao : Option Addr) (c : Nat) (xs : List Gn), cs = [.slice ao xs.length c] ∧ At w encG 2 ao c xs := by
  obtain ⟨ao, c, xs, h1, h2, _⟩ := open_rows (good := fun _ => True) Try.underlying34 Try.cellsGone encG_len (by omega) (fun _ _ _ h => by obtain ⟨g, rfl⟩ := open_gone h; exact ⟨g, rfl, trivial⟩) h
  exact ⟨ao, c, xs, h1, h2⟩

set_option maxRecDepth 100000 in
/-- A version among the arguments. -/
theorem open_version {r : Reach} {b0 : Nat} {v : Value} {d : DataW H} {p : List MemPlace} (hv : Value.okWide Try.prog w r b0 26 v) (h : DataW.Trod enc Try.prog w base spare held 26 v d p) :
    ∃ (ao : Nat → Option Addr) (L : Nat → List Fl) (c : Nat → Nat), v = .agg #[.slice (ao 0) (L 0).length (c 0), .slice (ao 1) (L 1).length (c 1), .slice (ao 2) (L 2).length (c 2), .slice (ao 3) (L 3).length (c 3)] ∧
      (∀ i, i < 4 → At w encF 9 (ao i) (c i) (L i)) ∧ (∀ i, i < 4 → ∀ f ∈ L i, WfF f) ∧ ((∀ n ∈ DataW.weights Try.prog 26 d, n ≤ reachBytes) → ∀ i, i < 4 → (L i).length ≤ 140737488351232) := by
  obtain ⟨cs, rfl, hsz⟩ := okWide_struct Try.underlying26 hv
  obtain ⟨l⟩ := cs
  rw [Try.cellsVersion] at hsz
  match l, hsz with
  | [c0, c1, c2, c3], _ =>
    obtain ⟨fuel, hf⟩ := h
    obtain ⟨y0, n, hd, _, h1⟩ := trod_struct1 Try.underlying26 hf
    cases hd
    have h1' : DataW.trod enc Try.prog w base spare held n 24 [c0, c1, c2, c3] = some y0 := by rw [Try.cellsLevels] at h1; exact h1
    obtain ⟨xs, m, _, hy, _, hlen, hi⟩ := DataW.trod_array Try.underlying24 h1'
    match xs, hlen with
    | [x0, x1, x2, x3], _ =>
      have g0 := hi 0 (by omega)
      have g1 := hi 1 (by omega)
      have g2 := hi 2 (by omega)
      have g3 := hi 3 (by omega)
      simp only [Try.cellsFiles, Nat.mul_one, List.drop_zero, List.drop_succ_cons, List.take_succ_cons, List.take_zero, List.getElem?_cons_zero, List.getElem?_cons_succ] at g0 g1 g2 g3
      obtain ⟨a0, d0, l0, e0, t0, w0, s0⟩ := open_files g0
      obtain ⟨a1, d1, l1, e1, t1, w1, s1⟩ := open_files g1
      obtain ⟨a2, d2, l2, e2, t2, w2, s2⟩ := open_files g2
      obtain ⟨a3, d3, l3, e3, t3, w3, s3⟩ := open_files g3
      cases e0; cases e1; cases e2; cases e3
      refine ⟨fun k => match k with | 0 => a0 | 1 => a1 | 2 => a2 | _ => a3, fun k => match k with | 0 => l0 | 1 => l1 | 2 => l2 | _ => l3, fun k => match k with | 0 => d0 | 1 => d1 | 2 => d2 | _ => d3, rfl, fun i hi => ?_, fun i hi => ?_, fun hw i hi => ?_⟩
      · rcases (show i = 0 ∨ i = 1 ∨ i = 2 ∨ i = 3 by omega) with rfl | rfl | rfl | rfl <;> assumption
      · rcases (show i = 0 ∨ i = 1 ∨ i = 2 ∨ i = 3 by omega) with rfl | rfl | rfl | rfl <;> assumption
      · have sized : ∀ (l : List Fl) (x : DataW H × List MemPlace), x ∈ [x0, x1, x2, x3] → (l ≠ [] → ∃ el sp, x.1 = .slice el sp ∧ el.length = l.length) → l.length ≤ 140737488351232 := by
          intro l x hx hs
          by_cases hl : l = []
          · subst hl; simp
          · obtain ⟨el, sp, hx1, hel⟩ := hs hl
            have hb : Try.prog.bytesOf 50 = 88 := by kernel_rfl
            have := hw ((el.length + sp.length) * 88) (by
              rw [show y0.1 = .agg ([x0, x1, x2, x3].map (·.1)) by rw [hy]]
              have hmem : x.1 ∈ [x0, x1, x2, x3].map (·.1) := List.mem_map_of_mem hx
              simp only [DataW.weights, Try.underlying26, DataW.weightsEach, List.map_cons, List.map_nil, Try.underlying24, DataW.weightsAll, List.append_nil, List.mem_append]
              simp only [List.mem_cons, List.not_mem_nil, or_false] at hx
              rcases hx with rfl | rfl | rfl | rfl
              · left; rw [hx1]; simp [DataW.weights, Try.underlying23, hb]
              · right; left; rw [hx1]; simp [DataW.weights, Try.underlying23, hb]
              · right; right; left; rw [hx1]; simp [DataW.weights, Try.underlying23, hb]
              · right; right; right; rw [hx1]; simp [DataW.weights, Try.underlying23, hb])
            have hr := reachBytes_lt
            omega
        rcases (show i = 0 ∨ i = 1 ∨ i = 2 ∨ i = 3 by omega) with rfl | rfl | rfl | rfl
        · exact sized l0 x0 (by simp) s0
        · exact sized l1 x1 (by simp) s1
        · exact sized l2 x2 (by simp) s2
        · exact sized l3 x3 (by simp) s3
end

end Go.Proofs.Ytjeanhaadbkncaa
