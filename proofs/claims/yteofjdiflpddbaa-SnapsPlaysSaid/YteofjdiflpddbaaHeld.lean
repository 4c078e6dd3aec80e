/- The snapshots that are held: a map of ids to numbers behind a pointer; New, Take, Seq, Release. -/
import Derived.Test.YteofjdiflpddbaaNum
import Derived.Lib.Hide
import Derived.Maps.OwnSet
import Derived.Maps.OwnOps
import Derived.IntWalk
namespace Go.Proofs.Yteofjdiflpddbaa
open Go.RowKit Go.Maps

theorem ret_bool' {a b : Bool} (h : a = b) : Ending.returned (.bool a) = .returned (.bool b) := by rw [h]
theorem ids_keyed : Keyed Try.prog 3 := int_keyed Try.underlying3

/-- A variable of a type. -/
def VarS (w : World) (b : Nat) (cs : Array Value) (T : TypeId) : Prop := w.heap[b]? = some (.cells cs T (0, 0))
theorem VarS.lt {w : World} {b : Nat} {cs : Array Value} {T : TypeId} (h : VarS w b cs T) : b < w.heap.size := (Array.getElem?_eq_some_iff.1 h).1
theorem VarS.cell {w : World} {b : Nat} {cs : Array Value} {T : TypeId} (h : VarS w b cs T) (j : Nat) : w.cell? ⟨b, j, none⟩ = cs[j]? := cell_of_row w b j cs T (0, 0) h
theorem VarS.free {w : World} {b : Nat} {cs : Array Value} {T : TypeId} (h : VarS w b cs T) (j : Nat) : w.frozen? ⟨b, j, none⟩ = false := frozen_of_row w b j cs T h
theorem VarS.set {w : World} {b : Nat} {cs : Array Value} {T : TypeId} (h : VarS w b cs T) (j : Nat) (v : Value) : VarS (w.setCell ⟨b, j, none⟩ v) b (cs.setIfInBounds j v) T := heap_setCell_same w b j cs T v h
theorem VarS.grown {w w' : World} {b : Nat} {cs : Array Value} {T : TypeId} {row : Option Nat} (h : VarS w b cs T) (hg : w.grownBy w' row) (hne : some b ≠ row) : VarS w' b cs T := (hg.block b h.lt hne).trans h

/-- Nothing that was there has turned but the blocks of which 'may' speaks. -/
structure Only (may : Nat → Prop) (w w' : World) : Prop where
  os : w'.os = w.os
  tape : w'.tape = w.tape
  output : w'.output = w.output
  size : w.heap.size ≤ w'.heap.size
  block : ∀ k, k < w.heap.size → ¬ may k → w'.heap[k]? = w.heap[k]?
theorem Only.refl (may : Nat → Prop) (w : World) : Only may w w := ⟨rfl, rfl, rfl, Nat.le_refl _, fun _ _ _ => rfl⟩
theorem Only.trans {may : Nat → Prop} {a b c : World} (h : Only may a b) (k : Only may b c) : Only may a c :=
  ⟨k.os.trans h.os, k.tape.trans h.tape, k.output.trans h.output, Nat.le_trans h.size k.size, fun i hi hm => (k.block i (Nat.lt_of_lt_of_le hi h.size) hm).trans (h.block i hi hm)⟩
theorem Only.of_grown {may : Nat → Prop} {a b : World} {row : Option Nat} (h : a.grownBy b row) (hr : ∀ k, row = some k → k < a.heap.size → may k) : Only may a b :=
  ⟨h.os, h.tape, h.output, h.size, fun i hi hm => h.block i hi (fun e => hm (hr i e.symm hi))⟩
theorem Only.of_below {may : Nat → Prop} {a b : World} (h : Below a.heap.size a b) : Only may a b := ⟨h.os, h.tape, h.output, h.size, fun i hi _ => h.block i hi⟩
theorem Only.setCell {may : Nat → Prop} {a b : World} (h : Only may a b) {p : Addr} (hp : may p.block) (v : Value) : Only may a (b.setCell p v) :=
  ⟨h.os, h.tape, h.output, by simpa [World.setCell] using h.size, fun i hi hm => (Below.heap_setCell b p v i (fun e => hm (e ▸ hp))).trans (h.block i hi hm)⟩
/-- Where only what is new may turn, all that is old is as it was. -/
theorem Only.below {may : Nat → Prop} {B : Nat} {a b : World} (h : Only may a b) (hB : B ≤ a.heap.size) (hm : ∀ k, may k → B ≤ k) : Below B a b :=
  ⟨h.os, h.tape, h.output, h.size, fun k hk => h.block k (Nat.lt_of_lt_of_le hk hB) (fun e => by have := hm k e; omega)⟩

def seqS (S : List (Int × Int)) (id : Int) : Option Int := (S.find? (fun p => p.1 == id)).map (·.2)
theorem seqS_isSome (S : List (Int × Int)) (id : Int) : (seqS S id).isSome = S.any (fun p => p.1 == id) := by
  unfold seqS
  rw [Option.isSome_map, Bool.eq_iff_iff, List.find?_isSome, List.any_eq_true]

/-- Block mb is a map that holds just these: ids, numbers. -/
def HeldM (w : World) (mb : Nat) (S : List (Int × Int)) : Prop :=
  ∃ D : DataW Unit, w.ownsMap Try.prog 3 (plainElem Try.prog 30) mb S.length D ∧ (∀ id : Int, Maps.has D (.int .i64 id) = S.any (fun p => p.1 == id)) ∧
    (∀ p ∈ S, ∀ z, D.atKey (.int .i64 p.1) z = .lit (.int .u64 p.2)) ∧ Maps.size D = S.length
theorem HeldM.made (w : World) : HeldM (w.alloc (.map #[] 0)) w.heap.size [] := ⟨_, World.ownsMap_made _ _ _ _, fun _ => rfl, by simp, rfl⟩
theorem HeldM.grown {w w' : World} {mb : Nat} {S : List (Int × Int)} {row : Option Nat} (h : HeldM w mb S) (hg : w.grownBy w' row) (hne : some mb ≠ row) : HeldM w' mb S := by
  obtain ⟨D, h1, h2, h3, h4⟩ := h
  exact ⟨D, h1.kept hg hne, h2, h3, h4⟩
theorem HeldM.below {w w' : World} {mb : Nat} {S : List (Int × Int)} (h : HeldM w mb S) (hb : Below w.heap.size w w') : HeldM w' mb S :=
  h.grown (row := none) ⟨hb.os, hb.tape, hb.output, hb.size, fun k hk _ => hb.block k hk⟩ (by simp)
theorem HeldM.setCell {w : World} {mb : Nat} {S : List (Int × Int)} (h : HeldM w mb S) {a : Addr} (ha : mb ≠ a.block) (u : Value) : HeldM (w.setCell a u) mb S := by
  obtain ⟨D, h1, h2, h3, h4⟩ := h
  exact ⟨D, h1.setCell ha u, h2, h3, h4⟩
theorem HeldM.lt {w : World} {mb : Nat} {S : List (Int × Int)} (h : HeldM w mb S) : mb < w.heap.size := by
  obtain ⟨D, h1, _⟩ := h
  exact h1.lt
theorem HeldM.ne {w : World} {mb sb : Nat} {S : List (Int × Int)} {cs : Array Value} {T : TypeId} (h : HeldM w mb S) (hv : VarS w sb cs T) : mb ≠ sb := by
  rintro rfl
  obtain ⟨D, ⟨es, clock, hb, _⟩, _⟩ := h
  unfold VarS at hv
  rw [hb] at hv
  cases hv
theorem HeldM.look {w : World} {mb : Nat} {S : List (Int × Int)} (h : HeldM w mb S) {id : Int} (hid : (Lit.int .i64 id).wf = true) :
    (Instr.lookup 47 (.map (some mb)) (.int .i64 id) true).run Try.prog w = .ok (.tuple #[.int .u64 ((seqS S id).getD 0), .bool (S.any (fun p => p.1 == id))]) w := by
  obtain ⟨D, h1, h2, h3, _⟩ := h
  obtain ⟨v, ps, hrun, hv⟩ := h1.look_ok (t := 47) ids_keyed Try.underlying47 (Try.zeroValue30 w) (plainElem_int Try.underlying30 (a := 0) (by decide)) (keyOf_int_mk Try.underlying3 hid)
  obtain ⟨y, rfl, hy, _⟩ := plainElem_int_inv Try.underlying30 hv
  rw [hrun, h2 id]
  have : y = (seqS S id).getD 0 := by
    have hy1 := congrArg Prod.fst hy
    simp only at hy1
    unfold seqS
    cases hf : S.find? (fun p => p.1 == id) with
    | none =>
      have hno : Maps.has D (.int .i64 id) = false := by rw [h2 id, List.any_eq_false]; intro p hp; simpa using List.find?_eq_none.1 hf p hp
      rw [atKey_of_not_has hno] at hy1
      cases hy1
      rfl
    | some p =>
      have hp := List.find?_some hf
      have hid' : p.1 = id := by simpa using hp
      rw [← hid', h3 p (List.mem_of_find?_eq_some hf)] at hy1
      cases hy1
      rfl
  rw [this]
theorem HeldM.len {w : World} {mb : Nat} {S : List (Int × Int)} (h : HeldM w mb S) (ty : TypeId) : (Builtin.len_ #[47] ty #[.map (some mb)]).run Try.prog w = .ok (.int .i64 (S.length : Int)) w := by
  obtain ⟨D, h1, _, _, h4⟩ := h
  rw [← h4]
  exact h1.len Try.underlying47 ty
theorem HeldM.put {w' : World} {mb : Nat} {S : List (Int × Int)} {id seq : Int} {D : DataW Unit} (h2 : ∀ id : Int, Maps.has D (.int .i64 id) = S.any (fun p => p.1 == id)) (h3 : ∀ p ∈ S, ∀ z, D.atKey (.int .i64 p.1) z = .lit (.int .u64 p.2)) (h4 : Maps.size D = S.length) (ht : Tidy D)
    (hnew : S.any (fun p => p.1 == id) = false) (h : w'.ownsMap Try.prog 3 (plainElem Try.prog 30) mb (S.length + 1) (D.put (.int .i64 id) (.lit (.int .u64 seq)))) : HeldM w' mb (S ++ [(id, seq)]) := by
  refine ⟨_, by rw [List.length_append]; exact h, fun x => ?_, fun p hp z => ?_, ?_⟩
  · by_cases e : x = id
    · subst e
      rw [has_put_same ht.isMap (by trivial)]
      simp
    · rw [has_put_other (by intro h; cases h; exact e rfl), h2 x]
      simp [Ne.symm e]
  · rcases List.mem_append.1 hp with hp | hp
    · have hne : p.1 ≠ id := by
        intro e
        rw [List.any_eq_false] at hnew
        exact hnew p hp (by simp [e])
      rw [atKey_put_other (by intro h; cases h; exact hne rfl)]
      exact h3 p hp z
    · simp only [List.mem_singleton] at hp
      subst hp
      exact atKey_put_same ht.isMap (by trivial) _ _
  · rw [size_put ht, h2 id, hnew, List.length_append, h4]
    rfl
theorem HeldM.del {w' : World} {mb : Nat} {S : List (Int × Int)} {id : Int} {D : DataW Unit} (h2 : ∀ id : Int, Maps.has D (.int .i64 id) = S.any (fun p => p.1 == id)) (h3 : ∀ p ∈ S, ∀ z, D.atKey (.int .i64 p.1) z = .lit (.int .u64 p.2)) (h4 : Maps.size D = S.length) (ht : Tidy D)
    (hnd : (S.map (·.1)).Nodup) (h : w'.ownsMap Try.prog 3 (plainElem Try.prog 30) mb S.length (D.del (.int .i64 id))) : HeldM w' mb (S.filter fun p => p.1 != id) := by
  have hlen : Maps.size (D.del (.int .i64 id)) = (S.filter fun p => p.1 != id).length := by
    have h5 := size_del (k := .int .i64 id) ht
    rw [h2 id, h4] at h5
    have : ∀ S : List (Int × Int), (S.map (·.1)).Nodup → (S.filter fun p => p.1 != id).length + (if S.any (fun p => p.1 == id) then 1 else 0) = S.length := by
      intro S
      induction S with
      | nil => intro _; rfl
      | cons p S ih =>
        intro hn
        rw [List.map_cons, List.nodup_cons] at hn
        have := ih hn.2
        by_cases e : p.1 = id
        · have hno : S.any (fun q => q.1 == id) = false := by
            rw [List.any_eq_false]
            intro q hq hqe
            exact hn.1 (by rw [e, ← show q.1 = id by simpa using hqe]; exact List.mem_map_of_mem hq)
          rw [hno] at this
          simp [e] at this ⊢
          exact this
        · have hb : (p.1 == id) = false := by simpa using e
          have hb' : (p.1 != id) = true := by simpa using e
          rw [List.filter_cons, hb', if_pos rfl, List.any_cons, hb, Bool.false_or, List.length_cons, List.length_cons]
          omega
    have := this S hnd
    omega
  obtain ⟨es, clock, hb, F, hs, hD⟩ := h
  refine ⟨_, ⟨es, clock, hb, F, ?_, hD⟩, fun x => ?_, fun p hp z => ?_, hlen⟩
  · rw [← hlen, hD]
    simp [Maps.size, length_sorted]
  · by_cases e : x = id
    · subst e
      rw [has_del_same, Eq.comm, List.any_eq_false]
      intro p hp
      have := (List.mem_filter.1 hp).2
      simpa using this
    · rw [has_del_other (by intro h; cases h; exact e rfl), h2 x, List.any_filter]
      congr 1
      funext p
      by_cases e2 : p.1 = x
      · subst e2; simp [e]
      · simp [e2]
  · obtain ⟨hp1, hp2⟩ := List.mem_filter.1 hp
    rw [atKey_del_other (by intro h; cases h; simp at hp2)]
    exact h3 p hp1 z

end Go.Proofs.Yteofjdiflpddbaa
