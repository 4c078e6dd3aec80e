/- The walks of New, Take, Seq, Release of snapshots. -/
import Derived.Test.YteofjdiflpddbaaHeld
namespace Go.Proofs.Yteofjdiflpddbaa
open Go.RowKit Go.Maps

/-- The set at block sb holds these, in the map at block mb; so many were taken. -/
structure SetV (w : World) (sb mb : Nat) (S : List (Int × Int)) (tk : Int) : Prop where
  var : VarS w sb #[.map (some mb), .int .i64 tk] 49
  held : HeldM w mb S
theorem SetV.ne {w : World} {sb mb : Nat} {S : List (Int × Int)} {tk : Int} (h : SetV w sb mb S tk) : mb ≠ sb := h.held.ne h.var
theorem SetV.grown {w w' : World} {sb mb : Nat} {S : List (Int × Int)} {tk : Int} {row : Option Nat} (h : SetV w sb mb S tk) (hg : w.grownBy w' row) (h1 : some sb ≠ row) (h2 : some mb ≠ row) : SetV w' sb mb S tk := ⟨h.var.grown hg h1, h.held.grown hg h2⟩
theorem SetV.below {w w' : World} {sb mb : Nat} {S : List (Int × Int)} {tk : Int} (h : SetV w sb mb S tk) (hb : Below w.heap.size w w') : SetV w' sb mb S tk :=
  h.grown (row := none) ⟨hb.os, hb.tape, hb.output, hb.size, fun k hk _ => hb.block k hk⟩ (by simp) (by simp)
def mayS (sb mb k : Nat) : Prop := k = sb ∨ k = mb

theorem new_any (w : World) : Calls Try.prog 8 #[] w fun e w' => e = .returned (.pointer (some ⟨w.heap.size + 1, 0, none⟩)) ∧ SetV w' (w.heap.size + 1) w.heap.size [] 0 ∧ Below w.heap.size w w' := by
  have hmm := @run_makeMap Try.prog
  go_enter Try.func8, Try.ntmps8
  go_wp2
  go_ret
  refine ⟨rfl, ⟨?_, (HeldM.made w).below ((Below.refl _ _).alloc (Nat.le_refl _) _)⟩, ((Below.refl _ _).alloc (Nat.le_refl _) _).alloc (by simp) _⟩
  show _ = _
  rw [show w.heap.size + 1 = (w.alloc (.map #[] 0)).heap.size by simp]
  exact heap_alloc_new _ _

theorem takeNil_any (seq : Int) (w : World) : Calls Try.prog 9 #[.pointer none, .int .u64 seq] w fun e w' => e = .returned (.tuple #[.int .i64 0, .int .i64 1]) ∧ w' = w := by
  go_enter Try.func9, Try.ntmps9
  go_wp2
  go_ret2
  exact ⟨rfl, rfl⟩

theorem takeFull_any (sb mb : Nat) (S : List (Int × Int)) (tk seq : Int) (w : World) (hs : SetV w sb mb S tk) (hfull : 100 ≤ S.length) :
    Calls Try.prog 9 #[.pointer (some ⟨sb, 0, none⟩), .int .u64 seq] w fun e w' => e = .returned (.tuple #[.int .i64 0, .int .i64 201]) ∧ w' = w := by
  have c0 := hs.var.cell 0
  have hl := fun ty => hs.held.len ty
  have hf : (100 : Int) ≤ (S.length : Int) := by omega
  clear hs
  go_enter Try.func9, Try.ntmps9
  go_wp2
  go_ret2
  exact ⟨rfl, rfl⟩

theorem take_any (sb mb : Nat) (S : List (Int × Int)) (tk seq : Int) (w : World) (hs : SetV w sb mb S tk) (hroom : S.length < 100) (h0 : 0 ≤ tk) (h1 : tk ≤ 140737488355328) (hseq : (Lit.int .u64 seq).wf = true) (hnew : S.any (fun p => p.1 == tk) = false) :
    Calls Try.prog 9 #[.pointer (some ⟨sb, 0, none⟩), .int .u64 seq] w fun e w' => e = .returned (.tuple #[.int .i64 tk, .int .i64 0]) ∧ SetV w' sb mb (S ++ [(tk, seq)]) (tk + 1) ∧ Only (mayS sb mb) w w' := by
  have c0 := hs.var.cell 0
  have c1 := hs.var.cell 1
  have hl := fun ty => hs.held.len ty
  have hne := hs.ne
  have hf : ¬ ((100 : Int) ≤ (S.length : Int)) := by omega
  have HS := Lib.hid hs
  obtain ⟨D, hD1, hD2, hD3, hD4⟩ := hs.held
  have HD1 := Lib.hid hD1
  have HN := Lib.hid hnew
  have HD2 := Lib.hid hD2
  have HD3 := Lib.hid hD3
  have HD4 := Lib.hid hD4
  have HW := Lib.hid (show (Lit.int .i64 tk).wf = true from WalkArith.wf_i64 (by omega))
  have HQ := Lib.hid hseq
  have HM := Lib.hid (show S.length < maxLen by unfold maxLen; omega)
  clear hs hD1 hnew hD2 hD3 hD4 hseq
  go_enter Try.func9, Try.ntmps9
  go_wp2_with (at_mapUpdate; refine wpList_mapUpdate_own _ rfl (.tmp 24) (.tmp 25) (.tmp 26) 47 rfl 3 30 ids_keyed Try.underlying47 (plainElem Try.prog 30) mb _ D rfl HD1.out HM.out _ _ (.int .i64 tk) rfl rfl (keyOf_int_mk Try.underlying3 HW.out) (.lit (.int .u64 seq)) [] (plainElem_int Try.underlying30 HQ.out) ?_; intro w1 hown1 hgrow1; have hv1 := HS.out.var.grown hgrow1 (by simpa using fun e => hne e.symm); have d0 := hv1.cell 0; have d1 := hv1.cell 1; have g1 := hv1.free 1; have HV1 := Lib.hid hv1; clear hv1)
  go_ret2
  refine ⟨rfl, ⟨?_, ?_⟩, ?_⟩
  · exact HV1.out.set 1 _
  · exact (HeldM.put HD2.out HD3.out HD4.out (HD1.out.tidy ids_keyed) HN.out hown1).setCell hne _
  · exact (Only.of_grown hgrow1 fun k hk _ => by cases hk; exact .inr rfl).setCell (.inl rfl) _

theorem seqNil_any (id : Int) (w : World) : Calls Try.prog 11 #[.pointer none, .int .i64 id] w fun e w' => e = .returned (.tuple #[.int .u64 0, .int .i64 1]) ∧ w' = w := by
  go_enter Try.func11, Try.ntmps11
  go_wp2
  go_ret2
  exact ⟨rfl, rfl⟩
theorem seq_any (sb mb : Nat) (S : List (Int × Int)) (tk id : Int) (w : World) (hs : SetV w sb mb S tk) (hid : (Lit.int .i64 id).wf = true) :
    Calls Try.prog 11 #[.pointer (some ⟨sb, 0, none⟩), .int .i64 id] w fun e w' => e = .returned (.tuple #[.int .u64 ((seqS S id).getD 0), .int .i64 (if S.any (fun p => p.1 == id) then 0 else 200)]) ∧ w' = w := by
  have c0 := hs.var.cell 0
  have hlk := hs.held.look hid
  have hnone : S.any (fun p => p.1 == id) = false → (seqS S id).getD 0 = 0 := by
    intro h
    rw [← seqS_isSome] at h
    cases hq : seqS S id with
    | none => rfl
    | some x => rw [hq] at h; cases h
  cases hb : S.any (fun p => p.1 == id)
  · rw [hb] at hlk
    rw [hnone hb] at hlk ⊢
    clear hs hid hb hnone
    go_enter Try.func11, Try.ntmps11
    go_wp2
    go_ret2
    exact ⟨rfl, rfl⟩
  · rw [hb] at hlk
    clear hs hid hb hnone
    go_enter Try.func11, Try.ntmps11
    go_wp2
    go_ret2
    exact ⟨rfl, rfl⟩

theorem releaseNil_any (id : Int) (w : World) : Calls Try.prog 13 #[.pointer none, .int .i64 id] w fun e w' => e = .returned (.int .i64 1) ∧ w' = w := by
  go_enter Try.func13, Try.ntmps13
  go_wp2_with (go_at_call 11; refine (seqNil_any _ _).mono ?_; rintro e w' ⟨rfl, rfl⟩)
  go_ret
  exact ⟨rfl, rfl⟩
theorem release_any (sb mb : Nat) (S : List (Int × Int)) (tk id : Int) (w : World) (hs : SetV w sb mb S tk) (hid : (Lit.int .i64 id).wf = true) (hnd : (S.map (·.1)).Nodup) :
    Calls Try.prog 13 #[.pointer (some ⟨sb, 0, none⟩), .int .i64 id] w fun e w' => e = .returned (.int .i64 (if S.any (fun p => p.1 == id) then 0 else 200)) ∧ SetV w' sb mb (S.filter fun p => p.1 != id) tk ∧ Only (mayS sb mb) w w' := by
  have c0 := hs.var.cell 0
  have hne := hs.ne
  have hcon := seq_any sb mb S tk id w hs hid
  have HS := Lib.hid hs
  have HID := Lib.hid hid
  have HND := Lib.hid hnd
  cases hb : S.any (fun p => p.1 == id)
  · rw [hb] at hcon
    have HCON := Lib.hid hcon
    have HF : Hid (S.filter (fun p => p.1 != id) = S) := by
      show _ = _
      rw [List.filter_eq_self]
      intro p hp
      rw [List.any_eq_false] at hb
      simpa using hb p hp
    clear hs hid hb hnd hcon
    go_enter Try.func13, Try.ntmps13
    go_wp2_with (go_at_call 11; refine HCON.out.mono ?_; rintro e w' ⟨rfl, rfl⟩)
    go_ret
    exact ⟨rfl, by rw [HF.out]; exact HS.out, Only.refl _ _⟩
  · rw [hb] at hcon
    have HCON := Lib.hid hcon
    obtain ⟨D, hD1, hD2, hD3, hD4⟩ := hs.held
    have HD1 := Lib.hid hD1
    have HD2 := Lib.hid hD2
    have HD3 := Lib.hid hD3
    have HD4 := Lib.hid hD4
    clear hs hid hb hnd hcon hD1 hD2 hD3 hD4
    go_enter Try.func13, Try.ntmps13
    go_wp2_with (first
      | (go_at_call 11; refine HCON.out.mono ?_; rintro e w' ⟨rfl, rfl⟩)
      | (at_delete; refine wpList_delete_own _ rfl (.tmp 18) (.tmp 19) 47 3 rfl 30 ids_keyed Try.underlying47 (plainElem Try.prog 30) mb _ D rfl HD1.out _ (.int .i64 id) rfl (keyOf_int_mk Try.underlying3 HID.out) ?_; intro w1 hown1 hturn1))
    go_ret
    exact ⟨rfl, ⟨HS.out.var.grown hturn1.grown (by simpa using fun e => hne e.symm), HeldM.del HD2.out HD3.out HD4.out (HD1.out.tidy ids_keyed) HND.out hown1⟩, Only.of_grown hturn1.grown fun k hk _ => by cases hk; exact .inr rfl⟩

end Go.Proofs.Yteofjdiflpddbaa
