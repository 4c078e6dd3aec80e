/- More words on memory: draws; a struct's '=='. -/
import Derived.Test.YtjeanhaadbkncaaMem
import Derived.BigQuiet
import Derived.Deep.QuietTactic
import Derived.Laws.StructEq
namespace Go.Proofs.Ytjeanhaadbkncaa
open Go.RowKit

theorem bdrn {a w : World} (h : Below a.heap.size a w) (n : Nat) : Below a.heap.size a (w.drewN n) := ⟨h.os, h.tape, h.output, h.size, h.block⟩
theorem own_drewN {w : World} {base e k n : Nat} {v : Value} {xs : List Value} (h : w.ownsRow base e k v n xs) (m : Nat) : (w.drewN m).ownsRow base e k v n xs := h
theorem At.drewN {α : Type} {w : World} {enc : α → List Value} {k : Nat} {ao : Option Addr} {c : Nat} {xs : List α} (h : At w enc k ao c xs) (n : Nat) : At (w.drewN n) enc k ao c xs := ⟨h.len, h.cap, h.bare, h.cells⟩

/-- Block b of w is a variable of type T that holds these cells. -/
def Var (w : World) (b : Nat) (cs : Array Value) (T : TypeId) : Prop := w.heap[b]? = some (.cells cs T (0, 0))
theorem Var.lt {w : World} {b : Nat} {cs : Array Value} {T : TypeId} (h : Var w b cs T) : b < w.heap.size := (Array.getElem?_eq_some_iff.1 h).1
theorem Var.cell {w : World} {b : Nat} {cs : Array Value} {T : TypeId} (h : Var w b cs T) (j : Nat) : w.cell? ⟨b, j, none⟩ = cs[j]? := cell_of_row w b j cs T (0, 0) h
theorem Var.free {w : World} {b : Nat} {cs : Array Value} {T : TypeId} (h : Var w b cs T) (j : Nat) : w.frozen? ⟨b, j, none⟩ = false := frozen_of_row w b j cs T h
theorem Var.below {w w' : World} {b : Nat} {cs : Array Value} {T : TypeId} (h : Var w b cs T) (hb : Below w.heap.size w w') : Var w' b cs T := (hb.block b h.lt).trans h
theorem Var.set {w : World} {b : Nat} {cs : Array Value} {T : TypeId} (h : Var w b cs T) (j : Nat) (v : Value) : Var (w.setCell ⟨b, j, none⟩ v) b (cs.setIfInBounds j v) T := heap_setCell_same w b j cs T v h
theorem Var.setOther {w : World} {b : Nat} {cs : Array Value} {T : TypeId} (h : Var w b cs T) {a : Addr} (hne : b ≠ a.block) (v : Value) : Var (w.setCell a v) b cs T := (Below.heap_setCell w a v b hne).trans h
theorem Var.new (w : World) (cs : Array Value) (T : TypeId) : Var (w.alloc (.cells cs T)) w.heap.size cs T := heap_alloc_new w _
theorem Var.new' (w : World) (cs : Array Value) (T : TypeId) {b : Nat} (hb : b = w.heap.size) : Var (w.alloc (.cells cs T)) b cs T := hb ▸ heap_alloc_new w _
theorem Var.alloc {w : World} {b : Nat} {cs : Array Value} {T : TypeId} (h : Var w b cs T) (o : Obj) : Var (w.alloc o) b cs T := h.below (bal (Below.refl _ _) o)
theorem Var.setCell_lt {w : World} {a : Addr} {v : Value} : (w.setCell a v).heap.size = w.heap.size := by simp [World.setCell]
/-- A list that lies elsewhere stays where a variable is written. -/
theorem At.setCell {α : Type} {w : World} {enc : α → List Value} {k : Nat} {ao : Option Addr} {c : Nat} {xs : List α} (h : At w enc k ao c xs) {a : Addr} (v : Value) (hne : ∀ b, ao = some b → b.block ≠ a.block) : At (w.setCell a v) enc k ao c xs :=
  ⟨h.len, h.cap, h.bare, fun i x hx => by
    obtain ⟨b, off, rfl, hlt, hc⟩ := h.cells i x hx
    exact ⟨b, off, rfl, by rw [Var.setCell_lt]; exact hlt, fun j u hu => (World.cell?_of_block (w := w) (Below.heap_setCell w a v b (hne _ rfl))).trans (hc j u hu)⟩⟩

theorem at_of_own' {α : Type} {w : World} {base e k n : Nat} {v : Value} {enc : α → List Value} (henc : ∀ x, (enc x).length = k) {xs : List α} (h : w.ownsRow base e k v n (xs.flatMap enc)) (hn : n = xs.length) :
    ∃ ao c, v = .slice ao xs.length c ∧ At w enc k ao c xs ∧ ∀ b, ao = some b → base ≤ b.block := by
  obtain ⟨ao, c, hv, hat⟩ := at_of_own henc h hn
  refine ⟨ao, c, hv, hat, fun b hb => ?_⟩
  subst hb
  exact (h.lt b.block (by rw [hv]; rfl)).1
theorem bgr' {a w w' : World} {base e k n : Nat} {v : Value} {xs : List Value} (h : Below a.heap.size a w) (hown : w.ownsRow base e k v n xs) (hba : a.heap.size ≤ base) (hg : w.grownBy w' v.ownBlock) : Below a.heap.size a w' :=
  h.grown hg h.size fun k hk => Nat.le_trans hba (hown.lt k hk).1

theorem at_one' {α : Type} (w : World) (enc : α → List Value) (k e : Nat) (henc : ∀ x, (enc x).length = k) (x : α) (cs : Array Value) (hcs : cs.toList = enc x) {g : Nat} (hg : g = w.heap.size) :
    At (w.alloc (.cells cs e)) enc k (some ⟨g, 0, none⟩) 1 [x] := hg ▸ at_one w enc k e henc x cs hcs

end Go.Proofs.Ytjeanhaadbkncaa
