/- The walk of the reference's List. -/
import Derived.Test.YteofjdiflpddbaaRefSnap
import Derived.Test.YteofjdiflpddbaaListLaw
import Derived.Deep.DeepCutAuto
namespace Go.Proofs.Yteofjdiflpddbaa
open Go.RowKit Go.Maps

/-- The best among the first q: none yet, or a place. -/
def BestS (S : List (Int × Int)) (zs : List Int) (q : Nat) (b : Value) : Prop :=
  (b = .int .i64 (-1) ∧ ∀ p, p < q → ∀ y, S[p]? = some y → abS zs y.2 = false) ∨
  (∃ (j : Nat) (x : Int × Int), j < q ∧ b = .int .i64 j ∧ S[j]? = some x ∧ abS zs x.2 = true ∧ ∀ p, p < q → ∀ y, S[p]? = some y → abS zs y.2 = true → x.2 ≤ y.2)
theorem bdrn {a w : World} (h : Below a.heap.size a w) (n : Nat) : Below a.heap.size a (w.drewN n) := ⟨h.os, h.tape, h.output, h.size, h.block⟩
def lenV : Value → Nat
  | .slice _ n _ => n
  | _ => 0

set_option maxRecDepth 100000 in
set_option maxHeartbeats 4000000 in
theorem refList_any (rb B : Nat) (S : List (Int × Int)) (tk : Int) (v : Value) (w : World) (hs : RefV w rb B S tk v) (hlen : S.length ≤ 1000000) :
    Calls Try.prog 17 #[.pointer (some ⟨rb, 0, none⟩)] w fun e w' => ∃ v, e = .returned v ∧ w'.ownsRow w.heap.size 30 1 v (listS S).length ((listS S).flatMap encN) ∧ Below w.heap.size w w' := by
  obtain ⟨ao, c, rfl, hat⟩ := at_of_own encS_len hs.own rfl
  have c0 := hs.var.cell 0
  have hlt := hs.var.lt
  have HAT := Lib.hid hat
  have hLS := listS_le S
  clear hs hat
  go_enter Try.func17, Try.ntmps17
  go_wp2_with fail
  go_loopw [3] (fun v wr => ∃ zs : List Int, Hid (zs = (listS S).take zs.length) ∧ zs.length ≤ (listS S).length ∧ wr.ownsRow w.heap.size 30 1 v zs.length (zs.flatMap encN) ∧ Below w.heap.size w wr) (fun v _ => (listS S).length - lenV v)
  case atStart => exact ⟨[], Lib.hid rfl, Nat.zero_le _, World.ownsRow_nil _ _ _ _, Below.refl _ _⟩
  case round =>
    obtain ⟨zs, HZ, hzl, hown, hb⟩ := hrel
    obtain ⟨wo, hwo⟩ : ∃ wm, wm = wr := ⟨_, rfl⟩
    subst hwo
    obtain ⟨az, cz, rfl, hatz⟩ := at_of_own encN_len hown rfl
    have HO := Lib.hid hown
    have HAZ := Lib.hid hatz
    clear hown hatz
    go_wp2_with fail
    go_loopw [4, 5] (fun b i wr => ∃ q : Nat, q ≤ S.length ∧ i = .int .i64 q ∧ Hid (BestS S zs q b) ∧ Below wo.heap.size wo wr) (fun _ i _ => S.length - (intOf i).toNat)
    case atStart => exact ⟨0, Nat.zero_le _, rfl, Lib.hid (.inl ⟨rfl, fun p hp => by omega⟩), Below.refl _ _⟩
    case round =>
      obtain ⟨q, hq, rfl, HB, hb2⟩ := hrel
      have hb3 := btr hb hb2
      have d0 := kcell hb3 hlt c0
      by_cases hlt2 : q < S.length
      · obtain ⟨x, hx⟩ : ∃ x, S[q]? = some x := ⟨_, List.getElem?_eq_getElem hlt2⟩
        obtain ⟨b, off, hbl, hix, hcs⟩ := idx_at (P := Try.prog) (HAT.out.below hb3) 27 51 Try.underlying27 Try.sizeOf51 hx
        obtain ⟨e0, e1⟩ := snap_cells hcs
        have HX := Lib.hid hx
        obtain ⟨xi, xs⟩ := x
        dsimp only at e0 e1 HX
        clear hx hcs
        obtain ⟨A, hA⟩ : ∃ A, A = abS zs xs := ⟨_, rfl⟩
        have HA := Lib.hid hA
        clear hA
        have hltr : rb < wr.heap.size := Nat.lt_of_lt_of_le hlt hb3.size
        go_upto_region 6 with fail
        go_cut [6] (fun s6 wx => s6 = .bool A ∧ Hid (Below wr.heap.size wr wx))
        case first =>
          rcases List.eq_nil_or_concat zs with h0 | ⟨ys, z, h0⟩
          · subst h0
            have HAA : Hid (A = true) := Lib.hid (by rw [HA.out, abS_nil])
            go_wp2_with fail
            go_quiet (fail)
            go_wp2_with fail
            go_meet
            exact ⟨by rw [HAA.out], Lib.hid (bdrn (Below.refl _ _) _)⟩
          · rw [List.concat_eq_append] at h0
            have HAA : Hid (A = decide (z < xs)) := Lib.hid (by rw [HA.out, h0, abS_snoc])
            have hxk : zs[ys.length]? = some z := by rw [h0]; simp
            have hlz : zs.length = ys.length + 1 := by rw [h0]; simp
            obtain ⟨k, hk⟩ : ∃ k, k = ys.length := ⟨_, rfl⟩
            rw [← hk] at hxk hlz
            clear hk h0
            obtain ⟨b4, off4, hbl4, hix4, hcs4⟩ := idx_at (P := Try.prog) (HAZ.out.below hb2) 39 30 Try.underlying39 Try.sizeOf30 hxk
            have f1 : wr.cell? ⟨b4, off4 + k, none⟩ = some (.int .u64 z) := by have := hcs4 0 _ rfl; rwa [Nat.mul_one, Nat.add_zero] at this
            have hz0 : ((zs.length : Int) == 0) = false := by rw [beq_eq_false_iff_ne]; omega
            have hz1 : ¬ ((zs.length : Int) = 0) := by omega
            have hwr : IntKind.i64.wrap ((zs.length : Int) - 1) = (k : Int) := by rw [show (zs.length : Int) - 1 = k by omega]; exact IntWalk.i64_in _ (by omega)
            clear hlz hcs4 hxk
            go_wp2_with fail
            go_quiet (fail)
            go_wp2_with fail
            go_meet
            exact ⟨by rw [HAA.out], Lib.hid (bdrn (Below.refl _ _) _)⟩
        case rest =>
          obtain ⟨rfl, HBC⟩ := hcut
          have hbw : Below wo.heap.size wo wc := btr hb2 HBC.out
          have dd0 := kcell HBC.out hltr d0
          have ee1 := kcell HBC.out hbl e1
          clear d0 e0 e1
          cases A with
          | false =>
            go_wp2_with fail
            go_quiet (fail)
            go_wp2
            go_roundw
            case rel =>
              refine ⟨q + 1, by omega, by go_num, Lib.hid ?_, bdrn hbw _⟩
              have hf := HA.out
              rcases HB.out with ⟨h1, h2⟩ | ⟨j, y, hj, h1, h2, h3, h4⟩
              · refine .inl ⟨h1, fun p hp y hy => ?_⟩
                by_cases hpq : p = q
                · subst hpq; rw [HX.out] at hy; cases hy; exact hf.symm
                · exact h2 p (by omega) y hy
              · refine .inr ⟨j, y, by omega, h1, h2, h3, fun p hp y' hy' ha => ?_⟩
                by_cases hpq : p = q
                · subst hpq; rw [HX.out] at hy'; cases hy'; rw [← hf] at ha; cases ha
                · exact h4 p (by omega) y' hy' ha
            case measure => simp [intOf]; omega
          | true =>
            rcases HB.out with ⟨rfl, hno⟩ | ⟨j, y, hj, rfl, hy, hab, hmin⟩
            · have HNO := Lib.hid hno
              clear hno
              go_wp2_with fail
              go_quiet (fail)
              go_wp2
              go_roundw
              case rel =>
                refine ⟨q + 1, by omega, by go_num, Lib.hid (.inr ⟨q, (xi, xs), by omega, rfl, HX.out, HA.out.symm, fun p hp y hy ha => ?_⟩), bdrn hbw _⟩
                by_cases hpq : p = q
                · subst hpq; rw [HX.out] at hy; cases hy; exact Int.le_refl _
                · rw [HNO.out p (by omega) y hy] at ha; cases ha
              case measure => simp [intOf]; omega
            · obtain ⟨b5, off5, hbl5, hix5, hcs5⟩ := idx_at (P := Try.prog) (HAT.out.below (btr hb hbw)) 27 51 Try.underlying27 Try.sizeOf51 hy
              have g1 := (snap_cells hcs5).2
              have HY := Lib.hid hy
              have HAB := Lib.hid hab
              have HMIN := Lib.hid hmin
              obtain ⟨yi, yv⟩ := y
              dsimp only at g1 HY HAB HMIN
              clear hy hab hmin hcs5
              have hj0 : ¬ ((j : Int) < 0) := by omega
              have hj1 : decide ((j : Int) < 0) = false := by simp
              by_cases hless : xs < yv
              · have hdl : decide (xs < yv) = true := by simp [hless]
                go_wp2_with fail
                go_quiet (fail)
                go_wp2
                go_roundw
                case rel =>
                  refine ⟨q + 1, by omega, by go_num, Lib.hid (.inr ⟨q, (xi, xs), by omega, rfl, HX.out, HA.out.symm, fun p hp y' hy' ha => ?_⟩), bdrn hbw _⟩
                  by_cases hpq : p = q
                  · subst hpq; rw [HX.out] at hy'; cases hy'; exact Int.le_refl _
                  · have := HMIN.out p (by omega) y' hy' ha
                    show xs ≤ y'.2
                    omega
                case measure => simp [intOf]; omega
              · have hdl : decide (xs < yv) = false := by simp; omega
                go_wp2_with fail
                go_quiet (fail)
                go_wp2
                go_roundw
                case rel =>
                  refine ⟨q + 1, by omega, by go_num, Lib.hid (.inr ⟨j, (yi, yv), by omega, rfl, HY.out, HAB.out, fun p hp y' hy' ha => ?_⟩), bdrn hbw _⟩
                  by_cases hpq : p = q
                  · subst hpq; rw [HX.out] at hy'; cases hy'; show yv ≤ xs; omega
                  · exact HMIN.out p (by omega) y' hy' ha
                case measure => simp [intOf]; omega
      · obtain rfl : q = S.length := by omega
        have hltr : rb < wr.heap.size := Nat.lt_of_lt_of_le hlt hb3.size
        rcases HB.out with ⟨rfl, hno⟩ | ⟨j, y, hj, rfl, hy, hab, hmin⟩
        · have HF : Hid (zs = listS S) := Lib.hid (pick_none HZ.out fun p y hy => hno p (List.getElem?_eq_some_iff.1 hy).1 y hy)
          clear hno
          have hm1 : decide ((-1 : Int) < 0) = true := by decide
          go_wp2
          refine bodyPost_ret (v := .slice az zs.length cz) (by simp [results, Try.results17, go_sem]) rfl ⟨_, rfl, ?_, hb3⟩
          rw [← HF.out]
          exact own_below HO.out hb2
        · have hpn := pick_next HZ.out hy hab fun p y' hy' ha => hmin p (List.getElem?_eq_some_iff.1 hy').1 y' hy' ha
          obtain ⟨b5, off5, hbl5, hix5, hcs5⟩ := idx_at (P := Try.prog) (HAT.out.below hb3) 27 51 Try.underlying27 Try.sizeOf51 hy
          have g1 := (snap_cells hcs5).2
          obtain ⟨yi, yv⟩ := y
          dsimp only at g1 hpn
          obtain ⟨hpl, hpt⟩ := hpn
          have HPT := Lib.hid hpt
          have hj0 : ¬ ((j : Int) < 0) := by omega
          have hj1 : decide ((j : Int) < 0) = false := by simp
          have hown := own_below HO.out hb2
          clear hpt hy hab hmin hcs5
          go_wp2_with (at_builtin; refine wpList_append_at _ rfl (.tmp 64) (.tmp 73) 39 rfl encN 1 encN_len encN_one w.heap.size 30 _ 8 Try.underlying39 Try.infoNum rfl (by decide) _ _ rfl (hown.alloc _) _ _ _ [yv] rfl rfl (at_oneN _ _ yv (by first | rfl | simp)) (by simp only [List.length_cons, List.length_nil]; omega) (by simp only [List.length_cons, List.length_nil, maxLen]; omega) (Nat.le_trans hb3.size (by simp)) ?_; intro v' w2 hown2 hgrow2)
          have hb4 := bgr (bal hb3 _) (hown.alloc _) hgrow2
          obtain ⟨a6, c6, rfl, -⟩ := at_of_own encN_len hown2 rfl
          go_wp2
          go_roundw
          case rel => exact ⟨zs ++ [yv], HPT, by simp; omega, hown2, hb4⟩
          case measure => simp [lenV]; omega

end Go.Proofs.Yteofjdiflpddbaa
