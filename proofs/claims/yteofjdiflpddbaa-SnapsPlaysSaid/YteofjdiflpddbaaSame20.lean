/- Two lists of numbers that are the same; how both sets lie apart. -/
import Derived.Test.YteofjdiflpddbaaRefList
namespace Go.Proofs.Yteofjdiflpddbaa
open Go.RowKit Go.Maps

theorem same20_any (ao : Option Addr) (c : Nat) (ao' : Option Addr) (c' : Nat) (xs : List Int) (w : World) (hat : At w encN 1 ao c xs) (hat' : At w encN 1 ao' c' xs) (hlen : xs.length ≤ 1000000) :
    Calls Try.prog 16 #[.slice ao xs.length c, .slice ao' xs.length c'] w fun e w' => e = .returned (.bool true) ∧ Below w.heap.size w w' := by
  have HAT := Lib.hid hat
  have HAT' := Lib.hid hat'
  have hne : ((xs.length : Int) != (xs.length : Int)) = false := by simp
  clear hat hat'
  go_enter Try.func16, Try.ntmps16
  go_wp2_with fail
  go_loopw [5] (fun i wr => ∃ k : Nat, k ≤ xs.length ∧ i = .int .i64 k ∧ Below w.heap.size w wr) (fun i _ => xs.length - (intOf i).toNat)
  case atStart => exact ⟨0, Nat.zero_le _, rfl, Below.refl _ _⟩
  case round =>
    obtain ⟨k, hk, rfl, hb⟩ := hrel
    by_cases hlt : k < xs.length
    · obtain ⟨y, hy⟩ : ∃ y, xs[k]? = some y := ⟨_, List.getElem?_eq_getElem hlt⟩
      obtain ⟨b1, off1, hbl1, hix1, hcs1⟩ := idx_at (P := Try.prog) (HAT.out.below hb) 39 30 Try.underlying39 Try.sizeOf30 hy
      obtain ⟨b2, off2, hbl2, hix2, hcs2⟩ := idx_at (P := Try.prog) (HAT'.out.below hb) 39 30 Try.underlying39 Try.sizeOf30 hy
      have d1 : wr.cell? ⟨b1, off1 + k, none⟩ = some (.int .u64 y) := by have := hcs1 0 _ rfl; rwa [Nat.mul_one, Nat.add_zero] at this
      have d2 : wr.cell? ⟨b2, off2 + k, none⟩ = some (.int .u64 y) := by have := hcs2 0 _ rfl; rwa [Nat.mul_one, Nat.add_zero] at this
      have hnn : (y != y) = false := by simp
      clear hy hcs1 hcs2
      go_wp2
      go_quiet (fail)
      go_wp2
      go_roundw
      case rel => exact ⟨k + 1, by omega, by go_num, bdrn hb nq⟩
      case measure => simp [intOf]; omega
    · obtain rfl : k = xs.length := by omega
      go_wp2
      go_ret
      exact ⟨rfl, hb⟩

theorem own_ne_map {w : World} {B e k n mb : Nat} {v : Value} {xs : List Value} {S : List (Int × Int)} (h : w.ownsRow B e k v n xs) (hm : HeldM w mb S) : some mb ≠ v.ownBlock := by
  rcases h.2 with ⟨rfl, _⟩ | ⟨g, cap, cur, rfl, hb, hg, _⟩
  · intro h; cases h
  · intro h
    cases h
    obtain ⟨D, ⟨es, clock, hb', _⟩, _⟩ := hm
    rw [hb'] at hg
    cases hg
theorem var_ne {w : World} {a b : Nat} {cs ds : Array Value} {T U : TypeId} (h : VarS w a cs T) (k : VarS w b ds U) (hT : T ≠ U) : a ≠ b := by
  rintro rfl
  unfold VarS at h k
  rw [h] at k
  cases k
  exact hT rfl
/-- The two sets lie apart. -/
structure Apart (sb mb rb : Nat) (v : Value) : Prop where
  s : ¬ mayR rb v sb
  m : ¬ mayR rb v mb
  r : ¬ mayS sb mb rb
  g : ∀ g, some g = v.ownBlock → ¬ mayS sb mb g
theorem apart_of {w : World} {sb mb rb B : Nat} {S S' : List (Int × Int)} {tk tk' : Int} {v : Value} (hs : SetV w sb mb S tk) (hr : RefV w rb B S' tk' v) : Apart sb mb rb v := by
  have h1 : sb ≠ rb := var_ne hs.var hr.var (show (49 : Nat) ≠ 29 by decide)
  have h2 : some sb ≠ v.ownBlock := own_ne_var hr.own hs.var (show (51 : Nat) ≠ 49 by decide)
  have h3 : mb ≠ rb := hs.held.ne hr.var
  have h4 : some mb ≠ v.ownBlock := own_ne_map hr.own hs.held
  refine ⟨fun h => h.elim h1 h2, fun h => h.elim h3 h4, fun h => h.elim (fun e => h1 e.symm) (fun e => h3 e.symm), fun g hg h => ?_⟩
  rcases h with rfl | rfl
  · exact h2 hg
  · exact h4 hg
theorem RefV.below {w w' : World} {rb B : Nat} {S : List (Int × Int)} {tk : Int} {v : Value} (h : RefV w rb B S tk v) (hb : Below w.heap.size w w') : RefV w' rb B S tk v :=
  ⟨h.var.below hb, own_below h.own hb⟩

/-- Ids are distinct, and each was given out. -/
def IdsS (S : List (Int × Int)) (tk : Int) : Prop := (S.map (·.1)).Nodup ∧ ∀ p ∈ S, p.1 < tk
theorem IdsS.new {S : List (Int × Int)} {tk : Int} (h : IdsS S tk) : S.any (fun p => p.1 == tk) = false := by
  rw [List.any_eq_false]
  intro p hp
  have := h.2 p hp
  simp; omega
theorem IdsS.add {S : List (Int × Int)} {tk : Int} (h : IdsS S tk) (seq : Int) : IdsS (S ++ [(tk, seq)]) (tk + 1) := by
  refine ⟨?_, fun p hp => ?_⟩
  · rw [List.map_append, List.nodup_append]
    refine ⟨h.1, by simp, fun a ha b hb => ?_⟩
    obtain ⟨p, hp, rfl⟩ := List.mem_map.1 ha
    have := h.2 p hp
    simp at hb
    omega
  · rcases List.mem_append.1 hp with hp | hp
    · have := h.2 p hp; omega
    · rw [List.mem_singleton.1 hp]; show tk < tk + 1; omega
theorem IdsS.del {S : List (Int × Int)} {tk : Int} (h : IdsS S tk) (id : Int) : IdsS (S.filter fun p => p.1 != id) tk :=
  ⟨h.1.sublist ((List.filter_sublist).map _), fun p hp => h.2 p (List.mem_filter.1 hp).1⟩

/-- A call of the script. -/
structure Cl where
  kind : Int
  seq : Int
  id : Int
def encC (c : Cl) : List Value := [.int .i64 c.kind, .int .u64 c.seq, .int .i64 c.id]
theorem encC_len (c : Cl) : (encC c).length = 3 := rfl
def WfC (c : Cl) : Prop := (Lit.int .u64 c.seq).wf = true ∧ (Lit.int .i64 c.id).wf = true
theorem call_cells {w : World} {b o : Nat} {c : Cl} (h : ∀ j u, (encC c)[j]? = some u → w.cell? ⟨b, o + j, none⟩ = some u) :
    w.cell? ⟨b, o, none⟩ = some (.int .i64 c.kind) ∧ w.cell? ⟨b, o + 1, none⟩ = some (.int .u64 c.seq) ∧ w.cell? ⟨b, o + 2, none⟩ = some (.int .i64 c.id) := ⟨h 0 _ rfl, h 1 _ rfl, h 2 _ rfl⟩
/-- A place in a list of the call's own. -/
theorem idx_own {P : Program} (t e : TypeId) (ht : P.underlying t = some (.slice e)) (hs : ∀ w, (sizeOf e).run P w = .ok 1 w) (g m cap k : Nat) (hk : k < m) (wx : World) :
    (Instr.indexAt t (.slice (some ⟨g, 0, none⟩) m cap) (.int .i64 (k : Int))).run P wx = .ok (.pointer (some ⟨g, k, none⟩)) wx := by
  have hel : P.elem t = e := by simp [Program.elem, ht]
  have hr := run_indexAt_slice (P := P) wx t ⟨g, 0, none⟩ m cap .i64 (k : Int) (by rw [hel]; exact ht)
  rw [hr, if_pos (by omega), hel, hs]
  simp [Result.andThen, Addr.add_lit]

end Go.Proofs.Yteofjdiflpddbaa
