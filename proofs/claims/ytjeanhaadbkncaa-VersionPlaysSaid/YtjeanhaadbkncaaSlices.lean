/- The walks of the library's functions on slices of files: Clone, IndexFunc, ContainsFunc; and the reference's Over, without. -/
import Derived.Test.YtjeanhaadbkncaaOver
namespace Go.Proofs.Ytjeanhaadbkncaa
open Go.RowKit

set_option maxHeartbeats 1000000 in
theorem clone_any (ao : Option Addr) (c : Nat) (xs : List Fl) (w : World) (hat : At w encF 9 ao c xs) (hsz : xs.length ≤ 1000000) :
    Calls Try.prog 32 #[.slice ao xs.length c] w fun e w' =>
      ∃ ao' c', e = .returned (.slice ao' xs.length c') ∧ At w' encF 9 ao' c' xs ∧ Below w.heap.size w w' := by
  have hnil := fun (a : Option Addr) (n c : Nat) (wx : World) => Lib.run_eql_slice_nil (P := Try.prog) wx 23 50 a n c 0 0 Try.underlying23
  cases ao with
  | none =>
    obtain rfl := hat.bare rfl
    have hx : xs = [] := List.eq_nil_of_length_eq_zero (Nat.le_zero.1 hat.len)
    subst hx
    go_enter Try.func32, Try.ntmps32
    go_wp2
    go_ret
    exact ⟨none, 0, rfl, At.nil _ _ _, (by repeat (first | exact Below.refl _ _ | (with_reducible assumption) | refine bal ?_ _ | refine bset ?_ (by simp) _ | refine bdr ?_ | refine btr ?_ (by with_reducible assumption)))⟩
  | some a =>
    have hown : (w.alloc (.cells #[] 50)).ownsRow w.heap.size 50 9 (.slice (some ⟨w.heap.size, 0, none⟩) 0 0) ([] : List Fl).length (([] : List Fl).flatMap encF) :=
      World.ownsRow_made w #[] 0 (Nat.le_refl _) (Nat.zero_le _) rfl
    go_enter Try.func32, Try.ntmps32
    go_wp2_with (at_builtin; go_loud (refine wpList_append_at _ rfl (.tmp 5) (.tmp 6) 23 rfl encF 9 encF_len encF_one w.heap.size 50 _ 88 Try.underlying23 Try.infoFile rfl (by decide) _ _ rfl hown _ _ _ xs rfl rfl (hat.below (bal (Below.refl _ _) _)) (by simp only [List.length_nil]; omega) (by simp only [List.length_nil, maxLen]; omega) (by simp) ?_); intro v' w2 hown2 hgrow2)
    have hb2 := bgr (bal (Below.refl _ _) _) hown hgrow2
    go_wp2
    go_ret
    obtain ⟨ao', c', hv', hat'⟩ := at_of_own encF_len hown2 rfl
    exact ⟨ao', c', by rw [hv']; rfl, hat', hb2⟩

/-- The first place at which p holds; -1: none. -/
def idxS (p : Fl → Bool) (xs : List Fl) : Int := match xs.findIdx? p with | some i => i | none => -1
theorem idxS_some {p : Fl → Bool} {xs : List Fl} {n : Nat} {f : Fl} (hf : xs[n]? = some f) (hp : p f = true) (h : ∀ j, j < n → ∀ x, xs[j]? = some x → p x = false) : idxS p xs = n := by
  have : xs.findIdx? p = some n := by
    rw [List.findIdx?_eq_some_iff_getElem]
    have hlt := (List.getElem?_eq_some_iff.1 hf).1
    refine ⟨hlt, ?_, fun j hj => ?_⟩
    · rw [(List.getElem?_eq_some_iff.1 hf).2]; exact hp
    · have := h j hj _ (List.getElem?_eq_getElem (by omega))
      simp [this]
  simp [idxS, this]
theorem idxS_none {p : Fl → Bool} {xs : List Fl} (h : ∀ (j : Nat) (x : Fl), xs[j]? = some x → p x = false) : idxS p xs = -1 := by
  have : xs.findIdx? p = none := by
    rw [List.findIdx?_eq_none_iff]
    intro x hx
    obtain ⟨j, hj, rfl⟩ := List.getElem_of_mem hx
    exact h j _ (List.getElem?_eq_getElem hj)
  simp [idxS, this]

/-- What a closure over one variable tells of a file, wherever what lay in w still lies. -/
def Tells (g : Nat) (cap : Value) (p : Fl → Bool) (w : World) : Prop :=
  ∀ w1, Below w.heap.size w w1 → ∀ f : Fl, Calls Try.prog g #[.agg (encF f).toArray, cap] w1 fun e w2 => e = .returned (.bool (p f)) ∧ Below w1.heap.size w1 w2

set_option maxRecDepth 100000 in
set_option maxHeartbeats 1000000 in
theorem indexFunc_any (g : Nat) (cap : Value) (p : Fl → Bool) (ao : Option Addr) (c : Nat) (xs : List Fl) (w : World) (hat : At w encF 9 ao c xs) (hsz : xs.length ≤ 1000000)
    (hcall : ∀ (args : Array Value) (w : World), (callFunc g args).run Try.prog w = .ok (.enter g args) w) (hp : Tells g cap p w) :
    Calls Try.prog 50 #[.slice ao xs.length c, .func (.func g) #[] #[cap]] w fun e w' => e = .returned (.int .i64 (idxS p xs)) ∧ Below w.heap.size w w' := by
  have HP := Lib.hid hp
  clear hp
  go_enter Try.func50, Try.ntmps50
  go_wp2_with fail
  go_loopw [8] (fun i wr => ∃ n : Nat, n ≤ xs.length ∧ i = .int .i64 n ∧ Hid (∀ j, j < n → ∀ x, xs[j]? = some x → p x = false) ∧ Below w.heap.size w wr) (fun i _ => xs.length - (intOf i).toNat)
  case atStart => exact ⟨0, Nat.zero_le _, rfl, Lib.hid (fun j hj => by omega), (by repeat (first | exact Below.refl _ _ | (with_reducible assumption) | refine bal ?_ _ | refine bset ?_ (by simp) _ | refine bdr ?_ | refine btr ?_ (by with_reducible assumption)))⟩
  case round =>
    obtain ⟨n, hn, rfl, hno, hb⟩ := hrel
    by_cases hlt : n < xs.length
    · obtain ⟨f, hf⟩ : ∃ f, xs[n]? = some f := ⟨_, List.getElem?_eq_getElem hlt⟩
      obtain ⟨b, off, hbl, hix, hcs⟩ := idx_at (P := Try.prog) (hat.below hb) 23 50 Try.underlying23 Try.sizeOf50 hf
      obtain ⟨e0, e1, e2, e3, e4, e5, e6, e7, e8⟩ := file_cells hcs
      have HF := Lib.hid hf
      clear hcs hf
      have hc := HP.out wr hb f
      simp only [encF] at hc
      cases hh : p f
      · rw [hh] at hc
        have HC := Lib.hid hc
        clear hc
        go_wp2_with (with_reducible refine HC.out.mono ?_; rintro e w1 ⟨rfl, hb1⟩)
        go_roundw
        case rel =>
          refine ⟨n + 1, by omega, by go_num, Lib.hid (fun j hj x hx => ?_), (by repeat (first | exact Below.refl _ _ | (with_reducible assumption) | refine bal ?_ _ | refine bset ?_ (by simp) _ | refine bdr ?_ | refine btr ?_ (by with_reducible assumption)))⟩
          by_cases hjn : j = n
          · subst hjn
            rw [HF.out] at hx
            cases hx
            exact hh
          · exact hno.out j (by omega) x hx
        case measure => simp [intOf]; omega
      · rw [hh] at hc
        have HC := Lib.hid hc
        clear hc
        go_wp2_with (with_reducible refine HC.out.mono ?_; rintro e w1 ⟨rfl, hb1⟩)
        go_ret
        exact ⟨ret_int (by rw [idxS_some HF.out hh hno.out]), (by repeat (first | exact Below.refl _ _ | (with_reducible assumption) | refine bal ?_ _ | refine bset ?_ (by simp) _ | refine bdr ?_ | refine btr ?_ (by with_reducible assumption)))⟩
    · go_wp2
      go_ret
      exact ⟨ret_int (by rw [idxS_none fun j x hx => hno.out j (by have := (List.getElem?_eq_some_iff.1 hx).1; omega) x hx]), (by repeat (first | exact Below.refl _ _ | (with_reducible assumption) | refine bal ?_ _ | refine bset ?_ (by simp) _ | refine bdr ?_ | refine btr ?_ (by with_reducible assumption)))⟩

theorem idxS_ge (p : Fl → Bool) (xs : List Fl) : -1 ≤ idxS p xs := by unfold idxS; split <;> omega
theorem idxS_any (p : Fl → Bool) (xs : List Fl) : decide (0 ≤ idxS p xs) = xs.any p := by
  unfold idxS
  cases h : xs.findIdx? p with
  | none =>
    rw [List.findIdx?_eq_none_iff] at h
    simp
    exact fun x hx => by simpa using h x hx
  | some i =>
    rw [List.findIdx?_eq_some_iff_getElem] at h
    obtain ⟨hlt, hp, _⟩ := h
    simp
    exact ⟨_, List.getElem_mem hlt, hp⟩

set_option maxHeartbeats 1000000 in
theorem containsFunc_any (g : Nat) (cap : Value) (p : Fl → Bool) (ao : Option Addr) (c : Nat) (xs : List Fl) (w : World) (hat : At w encF 9 ao c xs) (hsz : xs.length ≤ 1000000)
    (hcall : ∀ (args : Array Value) (w : World), (callFunc g args).run Try.prog w = .ok (.enter g args) w) (hp : Tells g cap p w) :
    Calls Try.prog 55 #[.slice ao xs.length c, .func (.func g) #[] #[cap]] w fun e w' => e = .returned (.bool (xs.any p)) ∧ Below w.heap.size w w' := by
  have HC := Lib.hid (indexFunc_any g cap p ao c xs w hat hsz hcall hp)
  clear hp hat hcall
  go_enter Try.func55, Try.ntmps55
  go_wp2_with (go_at_call 50; refine HC.out.mono ?_; rintro e w1 ⟨rfl, hb1⟩)
  go_ret
  exact ⟨ret_bool (idxS_any p xs), (by repeat (first | exact Below.refl _ _ | (with_reducible assumption) | refine bal ?_ _ | refine bset ?_ (by simp) _ | refine bdr ?_ | refine btr ?_ (by with_reducible assumption)))⟩

end Go.Proofs.Ytjeanhaadbkncaa
