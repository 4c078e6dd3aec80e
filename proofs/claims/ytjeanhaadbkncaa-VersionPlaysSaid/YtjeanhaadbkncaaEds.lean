/- Edits among the arguments. -/
import Derived.Test.YtjeanhaadbkncaaOpen
import Derived.Test.YtjeanhaadbkncaaEdit
namespace Go.Proofs.Ytjeanhaadbkncaa
open Go.ChangeShapes Go.WideShapes Go.ChangeAt Go.RowKit Go.Deep

/-- An edit as it lies: its three numbers, and where its gone and its laid files are. -/
structure Ed where
  log : Int
  nx : Int
  la : Int
  aod : Option Addr
  cd : Nat
  ds : List Gn
  aof : Option Addr
  cf : Nat
  fs : List Fl
def encE (x : Ed) : List Value := [.int .u64 x.log, .int .u64 x.nx, .int .u64 x.la, .slice x.aod x.ds.length x.cd, .slice x.aof x.fs.length x.cf]
theorem encE_len (x : Ed) : (encE x).length = 5 := rfl
structure EdAt (w : World) (x : Ed) : Prop where
  gone : At w encG 2 x.aod x.cd x.ds
  laid : At w encF 9 x.aof x.cf x.fs
  wf : ∀ f ∈ x.fs, WfF f
theorem EdAt.below {w w' : World} {x : Ed} (h : EdAt w x) (hb : Below w.heap.size w w') : EdAt w' x := ⟨h.gone.below hb, h.laid.below hb, h.wf⟩

theorem At.takeTen {α : Type} {w : World} {enc : α → List Value} {k : Nat} {ao : Option Addr} {c : Nat} {xs : List α} (h : At w enc k ao c xs) (n : Nat) : At w enc k ao c (xs.take n) :=
  ⟨Nat.le_trans (by simp; omega) h.len, h.cap, h.bare, fun i x hx => h.cells i x (by
    rw [List.getElem?_take] at hx
    split at hx
    · exact hx
    · cases hx)⟩
theorem edit_cells {w : World} {b o : Nat} {x : Ed} (h : ∀ j u, (encE x)[j]? = some u → w.cell? ⟨b, o + j, none⟩ = some u) :
    w.cell? ⟨b, o, none⟩ = some (.int .u64 x.log) ∧ w.cell? ⟨b, o + 1, none⟩ = some (.int .u64 x.nx) ∧ w.cell? ⟨b, o + 2, none⟩ = some (.int .u64 x.la) ∧
      w.cell? ⟨b, o + 3, none⟩ = some (.slice x.aod x.ds.length x.cd) ∧ w.cell? ⟨b, o + 4, none⟩ = some (.slice x.aof x.fs.length x.cf) :=
  ⟨h 0 _ rfl, h 1 _ rfl, h 2 _ rfl, h 3 _ rfl, h 4 _ rfl⟩

section
variable {H : Type} {enc : TypeId × Value → H} {w : World} {base : Nat} {spare : Nat → Bool} {held : Bool}

set_option maxRecDepth 100000 in
theorem open_edit {fuel : Nat} {cs : List Value} {x : DataW H × List MemPlace} (h : DataW.trod enc Try.prog w base spare held fuel 36 cs = some x) : ∃ f : Ed, cs = encE f ∧ EdAt w f := by
  obtain ⟨xs, n, _, _, hl, hlen, hf⟩ := DataW.trod_struct Try.underlying36 h
  rw [Try.cellsEdit] at hl
  match cs, hl, xs, hlen with
  | [c0, c1, c2, c3, c4], _, [y0, y1, y2, y3, y4], _ =>
    have h0 := hf 0 _ rfl
    have h1 := hf 1 _ rfl
    have h2 := hf 2 _ rfl
    have h3 := hf 3 _ rfl
    have h4 := hf 4 _ rfl
    simp only [List.getElem?_cons_zero, List.getElem?_cons_succ] at h0 h1 h2 h3 h4
    obtain ⟨log, e0, _⟩ := DataW.trod_int Try.underlying33 h0
    obtain ⟨nx, e1, _⟩ := DataW.trod_int Try.underlying33 h1
    obtain ⟨la, e2, _⟩ := DataW.trod_int Try.underlying33 h2
    obtain ⟨aod, cd, ds, e3, t3⟩ := open_gones h3
    obtain ⟨aof, cf, fs, e4, t4, wf, _⟩ := open_files h4
    cases e0; cases e1; cases e2; cases e3; cases e4
    exact ⟨⟨log, nx, la, aod, cd, ds, aof, cf, fs⟩, rfl, t3, t4, wf⟩

theorem open_edits {fuel : Nat} {cs : List Value} {x : DataW H × List MemPlace} (h : DataW.trod enc Try.prog w base spare held fuel 27 cs = some x) :
    ∃ (ao : Option Addr) (c : Nat) (xs : List Ed), cs = [.slice ao xs.length c] ∧ At w encE 5 ao c xs ∧ (∀ f ∈ xs, EdAt w f) := by
  obtain ⟨ao, c, xs, h1, h2, h3, _⟩ := open_rows (good := EdAt w) Try.underlying27 Try.cellsEdit encE_len (by omega) (fun _ _ _ h => open_edit h) h
  exact ⟨ao, c, xs, h1, h2, h3⟩
end

end Go.Proofs.Ytjeanhaadbkncaa
