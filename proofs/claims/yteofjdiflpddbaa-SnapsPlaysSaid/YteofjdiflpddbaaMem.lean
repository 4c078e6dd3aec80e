/- Words on memory for the walks: a slice that reads as a list of elements of k cells each. -/
import Derived.WalkKit
import Derived.WalkSpells
import Derived.Laws.AppendOwnNone
namespace Go.Proofs.Yteofjdiflpddbaa
open Go.RowKit

/-- In w, the slice with address ao and capacity c holds xs: k cells an element, enc x its cells. -/
structure At {α : Type} (w : World) (enc : α → List Value) (k : Nat) (ao : Option Addr) (c : Nat) (xs : List α) : Prop where
  len : xs.length ≤ c
  cap : c ≤ maxLen
  bare : ao = none → c = 0
  cells : ∀ i x, xs[i]? = some x → ∃ b off, ao = some ⟨b, off, none⟩ ∧ b < w.heap.size ∧ ∀ j u, (enc x)[j]? = some u → w.cell? ⟨b, off + i * k + j, none⟩ = some u

theorem At.nil {α : Type} (w : World) (enc : α → List Value) (k : Nat) : At w enc k none 0 [] :=
  ⟨Nat.le_refl _, Nat.zero_le _, fun _ => rfl, fun i x h => by simp at h⟩

/-- What lay in w lies in w' as well. -/
theorem At.below {α : Type} {w w' : World} {enc : α → List Value} {k : Nat} {ao : Option Addr} {c : Nat} {xs : List α} (h : At w enc k ao c xs) (hb : Below w.heap.size w w') : At w' enc k ao c xs :=
  ⟨h.len, h.cap, h.bare, fun i x hx => by
    obtain ⟨b, off, rfl, hlt, hc⟩ := h.cells i x hx
    exact ⟨b, off, rfl, Nat.lt_of_lt_of_le hlt hb.size, fun j u hu => (hb.cell (p := ⟨b, off + i * k + j, none⟩) hlt).trans (hc j u hu)⟩⟩

theorem At.tail {α : Type} {w : World} {enc : α → List Value} {k : Nat} {ao : Option Addr} {c : Nat} {xs : List α} (h : At w enc k ao c xs) (n : Nat) : At w enc k ao c (xs.take n) :=
  ⟨by have := h.len; simp only [List.length_take]; omega, h.cap, h.bare, fun i x hx => h.cells i x (by
    rw [List.getElem?_take] at hx
    split at hx
    · exact hx
    · cases hx)⟩

theorem grown_below {w w' : World} {row : Option Nat} {B : Nat} (hg : w.grownBy w' row) (hB : B ≤ w.heap.size) (hr : ∀ k, row = some k → B ≤ k) : Below B w w' :=
  (Below.refl B w).grown hg hB hr

/-- The flat cells of a list. -/
theorem flat_length {α : Type} (enc : α → List Value) (k : Nat) (henc : ∀ x, (enc x).length = k) (xs : List α) : (xs.flatMap enc).length = xs.length * k := by
  induction xs with
  | nil => simp
  | cons x xs ih => simp [List.flatMap_cons, ih, henc, Nat.succ_mul, Nat.add_comm]

theorem flat_get {α : Type} (enc : α → List Value) (k : Nat) (henc : ∀ x, (enc x).length = k) : ∀ (xs : List α) (i : Nat) (x : α) (j : Nat) (u : Value), xs[i]? = some x → (enc x)[j]? = some u →
    (xs.flatMap enc)[i * k + j]? = some u
  | [], i, x, j, u, h, _ => by simp at h
  | y :: ys, 0, x, j, u, h, hu => by
    simp at h
    subst h
    rw [List.flatMap_cons, Nat.zero_mul, Nat.zero_add, List.getElem?_append_left (List.getElem?_eq_some_iff.1 hu).1]
    exact hu
  | y :: ys, i + 1, x, j, u, h, hu => by
    have ih := flat_get enc k henc ys i x j u (by simpa using h) hu
    rw [List.flatMap_cons, List.getElem?_append_right (by rw [henc, Nat.succ_mul]; omega), henc]
    have : (i + 1) * k + j - k = i * k + j := by rw [Nat.succ_mul]; omega
    rw [this]
    exact ih

theorem flat_inv {α : Type} (enc : α → List Value) (k : Nat) (henc : ∀ x, (enc x).length = k) : ∀ (xs : List α) (m : Nat) (u : Value), (xs.flatMap enc)[m]? = some u →
    ∃ i x j, m = i * k + j ∧ xs[i]? = some x ∧ (enc x)[j]? = some u
  | [], m, u, h => by simp at h
  | y :: ys, m, u, h => by
    rw [List.flatMap_cons] at h
    by_cases hm : m < k
    · rw [List.getElem?_append_left (by rw [henc]; exact hm)] at h
      exact ⟨0, y, m, by omega, by simp, h⟩
    · rw [List.getElem?_append_right (by rw [henc]; omega), henc] at h
      obtain ⟨i, x, j, e, hx, hu⟩ := flat_inv enc k henc ys (m - k) u h
      exact ⟨i + 1, x, j, by rw [Nat.succ_mul]; omega, by simpa using hx, hu⟩

/-- A row that the call owns reads as its list. -/
theorem at_of_own {α : Type} {w : World} {base e k n : Nat} {v : Value} {enc : α → List Value} (henc : ∀ x, (enc x).length = k) {xs : List α} (h : w.ownsRow base e k v n (xs.flatMap enc)) (hn : n = xs.length) :
    ∃ ao c, v = .slice ao xs.length c ∧ At w enc k ao c xs := by
  subst hn
  rcases h.2 with ⟨rfl, h0⟩ | ⟨g, cap, cur, rfl, hb, hg, hnc, hcm, hcs, htake⟩
  · have : xs = [] := List.eq_nil_of_length_eq_zero h0
    subst this
    exact ⟨none, 0, rfl, At.nil _ _ _⟩
  · refine ⟨_, _, rfl, hnc, hcm, by simp, fun i x hx => ⟨g, 0, rfl, (Array.getElem?_eq_some_iff.1 hg).1, fun j u hu => ?_⟩⟩
    have hf := flat_get enc k henc xs i x j u hx hu
    have := h.cells (g := g) rfl (i * k + j) u hf
    rw [Addr.add_lit] at this
    rw [Nat.zero_add] at this ⊢
    exact this

/-- The cells of a slice, in a row. -/
theorem At.flat {α : Type} {w : World} {enc : α → List Value} {k : Nat} {ao : Option Addr} {c : Nat} {xs : List α} (h : At w enc k ao c xs) (henc : ∀ x, (enc x).length = k) :
    ∀ a, ao = some a → ∀ m u, (xs.flatMap enc)[m]? = some u → w.cell? (a.add m) = some u := by
  intro a ha m u hu
  obtain ⟨i, x, j, rfl, hx, hj⟩ := flat_inv enc k henc xs m u hu
  obtain ⟨b, off, hao, _, hc⟩ := h.cells i x hx
  obtain rfl : a = ⟨b, off, none⟩ := Option.some.inj (ha.symm.trans hao)
  rw [Addr.add_lit, ← Nat.add_assoc]
  exact hc j u hj

/-- append of a slice that reads as ys to one that the call owns. -/
theorem wpList_append_at {P : Program} (w : World) {ops : Array Oper} {rest : List Oper} {o : Oper} {a : Act} {Q : Exit → Act → World → Prop} (hgd : o.guard = none) (s x : Operand) (t : TypeId)
    (ho : o.op = .call { callee := .builtin .append, args := #[s, x], argTypes := #[t, t] })
    {α : Type} (enc : α → List Value) (k : Nat) (henc : ∀ x, (enc x).length = k) (h1 : ∀ x, ∀ u ∈ enc x, u.oneCell' = true)
    (base : Nat) (e : TypeId) (z : Value) (bytes : Nat) (ht : P.underlying t = some (.slice e)) (hinfo : (P.info? e).map (fun i => (i.zero, i.size, i.bytes)) = some (some z, k, bytes)) (hz : z.cells.size = k) (hk : 0 < k)
    (v : Value) (xs : List α) (hs : a.eval s = v) (hown : w.ownsRow base e k v xs.length (xs.flatMap enc))
    (ao : Option Addr) (m c : Nat) (ys : List α) (hx : a.eval x = .slice ao m c) (hm : m = ys.length) (hat : At w enc k ao c ys)
    (hlen : (xs.length + ys.length) * bytes ≤ 140737488355328) (hmax : xs.length + ys.length ≤ maxLen) (hbase : base ≤ w.heap.size)
    (h : ∀ v' w', w'.ownsRow base e k v' (xs ++ ys).length ((xs ++ ys).flatMap enc) → w.grownBy w' v.ownBlock → wpList P ops Q rest (a.put o.dst v') w') : wpList P ops Q (o :: rest) a w := by
  obtain ⟨i, hi, hz0, hz1, hz2⟩ := info_parts hinfo
  subst hm
  cases ao with
  | none =>
    obtain rfl := hat.bare rfl
    have hy : ys = [] := List.eq_nil_of_length_eq_zero (Nat.le_zero.1 hat.len)
    subst hy
    refine wpList_append_own_none hgd s x t ho base e i k ht hi v _ _ hs hown hx (h v w ?_ (World.grownBy.refl _ _))
    simpa using hown
  | some ad =>
    refine wpList_append_own w hgd s x t ho base e i z k bytes ht hi hz0 hz1 hz2 hz hk v _ _ hs hown ad ys.length c (ys.flatMap enc) hx (flat_length enc k henc ys) (hat.flat henc ad rfl) ?_ hmax hlen hbase ?_
    · intro u hu
      obtain ⟨y, _, hy⟩ := List.mem_flatMap.1 hu
      exact h1 y u hy
    · intro v' w' h2 h3 _
      refine h v' w' ?_ h3
      rw [List.flatMap_append, List.length_append]
      exact h2

/-- A row that a composite literal or a boxed element has just laid. -/
theorem at_new {α : Type} (w : World) (enc : α → List Value) (k e : Nat) (henc : ∀ x, (enc x).length = k) (xs : List α) (cs : Array Value) (hcs : cs.toList = xs.flatMap enc) (hm : xs.length ≤ maxLen) :
    At (w.alloc (.cells cs e)) enc k (some ⟨w.heap.size, 0, none⟩) xs.length xs :=
  ⟨Nat.le_refl _, hm, by simp, fun i x hx => ⟨w.heap.size, 0, rfl, by simp, fun j u hu => by
    have hf := flat_get enc k henc xs i x j u hx hu
    rw [cell_of_row (w.alloc (.cells cs e)) w.heap.size _ cs e (0, 0) (heap_alloc_new w _), Nat.zero_add, ← Array.getElem?_toList, hcs]
    exact hf⟩⟩

theorem at_one {α : Type} (w : World) (enc : α → List Value) (k e : Nat) (henc : ∀ x, (enc x).length = k) (x : α) (cs : Array Value) (hcs : cs.toList = enc x) :
    At (w.alloc (.cells cs e)) enc k (some ⟨w.heap.size, 0, none⟩) 1 [x] :=
  at_new w enc k e henc [x] cs (by simpa using hcs) (by simp [maxLen])

/-- A new block, of the call's own. -/
theorem bal {a w : World} (h : Below a.heap.size a w) (o : Obj) : Below a.heap.size a (w.alloc o) := h.alloc h.size o
/-- A store into a block of the call's own; a draw. -/
theorem bset {a w : World} (h : Below a.heap.size a w) {p : Addr} (hp : a.heap.size ≤ p.block) (u : Value) : Below a.heap.size a (w.setCell p u) := h.setCell hp u
theorem bdr {a w : World} (h : Below a.heap.size a w) : Below a.heap.size a w.drew := h.drew
/-- What a callee leaves. -/
theorem btr {a w w' : World} (h : Below a.heap.size a w) (hb : Below w.heap.size w w') : Below a.heap.size a w' := h.trans (hb.mono h.size)

/-- An element's address, and its cells. -/
theorem idx_at {P : Program} {α : Type} {w : World} {enc : α → List Value} {s : Nat} {ao : Option Addr} {c : Nat} {xs : List α} (h : At w enc s ao c xs) (t e : TypeId) (ht : P.underlying t = some (.slice e)) (hs : ∀ w, (sizeOf e).run P w = .ok s w) {i : Nat} {x : α} (hi : xs[i]? = some x) :
    ∃ b off, b < w.heap.size ∧ (∀ (kd : IntKind) (wx : World), (Instr.indexAt t (.slice ao xs.length c) (.int kd (i : Int))).run P wx = .ok (.pointer (some ⟨b, off + i * s, none⟩)) wx) ∧
      ∀ j u, (enc x)[j]? = some u → w.cell? ⟨b, off + i * s + j, none⟩ = some u := by
  obtain ⟨b, off, rfl, hlt, hc⟩ := h.cells i x hi
  have hi' : i < xs.length := (List.getElem?_eq_some_iff.1 hi).1
  refine ⟨b, off, hlt, fun kd wx => ?_, hc⟩
  have hel : P.elem t = e := by simp [Program.elem, ht]
  have hr := run_indexAt_slice (P := P) wx t ⟨b, off, none⟩ xs.length c kd (i : Int) (by rw [hel]; exact ht)
  rw [hr, if_pos (by omega), hel, hs]
  simp [Result.andThen, Addr.add_lit]

/-- What the call owns is still owned where a callee has been; an append to it leaves the rest. -/
theorem own_below {w w' : World} {base e k n : Nat} {v : Value} {xs : List Value} (h : w.ownsRow base e k v n xs) (hb : Below w.heap.size w w') : w'.ownsRow base e k v n xs :=
  h.kept (row := none) ⟨hb.os, hb.tape, hb.output, hb.size, fun k hk _ => hb.block k hk⟩ (by cases v.ownBlock <;> simp)
theorem bgr {a w w' : World} {e k n : Nat} {v : Value} {xs : List Value} (h : Below a.heap.size a w) (hown : w.ownsRow a.heap.size e k v n xs) (hg : w.grownBy w' v.ownBlock) : Below a.heap.size a w' :=
  h.grown hg h.size fun k hk => (hown.lt k hk).1

theorem bcell {W w1 : World} (hb : Below W.heap.size W w1) : (∀ b o, b < W.heap.size → w1.cell? ⟨b, o, none⟩ = W.cell? ⟨b, o, none⟩) ∧ (∀ b o, b < W.heap.size → w1.frozen? ⟨b, o, none⟩ = W.frozen? ⟨b, o, none⟩) :=
  ⟨fun b o h => hb.cell (p := ⟨b, o, none⟩) h, fun b o h => hb.frozen (p := ⟨b, o, none⟩) h⟩

end Go.Proofs.Yteofjdiflpddbaa
