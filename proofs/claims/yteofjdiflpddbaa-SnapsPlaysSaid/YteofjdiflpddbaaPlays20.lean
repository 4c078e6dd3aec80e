/- The walk of SnapsPlays: it returns true. -/
import Derived.Test.YteofjdiflpddbaaSame20
import Derived.Test.YteofjdiflpddbaaAwake20
import Derived.Deep.CutBlock
namespace Go.Proofs.Yteofjdiflpddbaa
open Go.RowKit Go.Maps

theorem below_only {w a b : World} {may : Nat → Prop} (h : Below w.heap.size w a) (ho : Only may a b) (hm : ∀ k, may k → w.heap.size ≤ k) : Below w.heap.size w b := h.trans (ho.below h.size hm)
theorem own_cases {w : World} {B e n : Nat} {v : Value} {xs : List Value} (h : w.ownsRow B e 1 v n xs) : (v = .slice none 0 0 ∧ n = 0) ∨ ∃ g cap cur, v = .slice (some ⟨g, 0, none⟩) n cap ∧ B ≤ g ∧ VarS w g cur e ∧ n ≤ cur.size := by
  rcases h.2 with h | ⟨g, cap, cur, rfl, hb, hg, hn, _, hs, _⟩
  · exact .inl h
  · exact .inr ⟨g, cap, cur, rfl, hb, hg, by omega⟩

set_option maxRecDepth 100000 in
set_option maxHeartbeats 8000000 in
theorem plays20_any (ao : Option Addr) (c : Nat) (cs : List Cl) (w : World) (hat : At w encC 3 ao c cs) (hwf : ∀ x ∈ cs, WfC x) (hlen : cs.length ≤ 140737488351232) :
    Calls Try.prog 4 #[.slice ao cs.length c] w fun e w' => e = .returned (.bool true) ∧ Below w.heap.size w w' := by
  have HAT := Lib.hid hat
  have HWF := Lib.hid hwf
  clear hat hwf
  go_enter Try.func4, Try.ntmps4
  go_wp2_with (first
    | (go_at_call 7; refine (awake20_any _).mono ?_; rintro e w1 ⟨rfl, hb1⟩; have B1 := Lib.hid hb1; clear hb1)
    | (go_at_call 8; refine (new_any _).mono ?_; rintro e w2 ⟨rfl, hs2, hb2⟩; have HS2 := Lib.hid hs2; have B2 := Lib.hid (btr B1.out hb2); clear hs2 hb2))
  obtain ⟨W3, hW3⟩ : ∃ W3, W3 = w2.alloc (.cells #[.slice none 0 0, .int .i64 0] 29) := ⟨_, rfl⟩
  rw [← hW3]
  have HS3 : Hid (SetV W3 (w1.heap.size + 1) w1.heap.size [] 0) := Lib.hid (by rw [hW3]; exact HS2.out.below (bal (Below.refl _ _) _))
  have HR3 : Hid (RefV W3 w2.heap.size w.heap.size [] 0 (.slice none 0 0)) := Lib.hid (by rw [hW3]; exact ⟨heap_alloc_new _ _, World.ownsRow_nil _ _ _ _⟩)
  have HB3 : Hid (Below w.heap.size w W3) := Lib.hid (by rw [hW3]; exact bal B2.out _)
  have hm0 : w.heap.size ≤ w1.heap.size := B1.out.size
  have hr0 : w.heap.size ≤ w2.heap.size := B2.out.size
  obtain ⟨sb, hsb⟩ : ∃ sb, sb = w1.heap.size + 1 := ⟨_, rfl⟩
  obtain ⟨mb, hmb⟩ : ∃ mb, mb = w1.heap.size := ⟨_, rfl⟩
  obtain ⟨rb, hrb⟩ : ∃ rb, rb = w2.heap.size := ⟨_, rfl⟩
  have hs0 : w.heap.size ≤ sb := by omega
  rw [← hsb, ← hmb] at HS3
  rw [← hrb] at HR3 hr0
  rw [← hmb] at hm0
  try rw [← hsb]
  rw [← hrb]
  clear hW3 hsb hmb hrb HS2 B1 B2
  go_loopw [6] (fun i wr => ∃ (n : Nat) (S : List (Int × Int)) (tk : Int) (v : Value), n ≤ cs.length ∧ i = .int .i64 n ∧ Hid (SetV wr sb mb S tk) ∧ Hid (RefV wr rb w.heap.size S tk v) ∧ Hid (IdsS S tk) ∧ S.length ≤ 100 ∧ 0 ≤ tk ∧ tk ≤ n ∧ Hid (Below w.heap.size w wr)) (fun i _ => cs.length - (intOf i).toNat)
  case atStart => exact ⟨0, [], 0, .slice none 0 0, Nat.zero_le _, rfl, HS3, HR3, Lib.hid ⟨List.nodup_nil, fun p hp => by cases hp⟩, by simp, Int.le_refl _, by simp, HB3⟩
  case round =>
    obtain ⟨n, S, tk, v, hn, rfl, HS, HR, HI, hS, h0, h1, HB⟩ := hrel
    obtain ⟨wr, hwr⟩ : ∃ wm, wm = wr := ⟨_, rfl⟩
    subst hwr
    by_cases hlt : n < cs.length
    · obtain ⟨x, hx⟩ : ∃ x, cs[n]? = some x := ⟨_, List.getElem?_eq_getElem hlt⟩
      obtain ⟨b, off, hbl, hix, hcs⟩ := idx_at (P := Try.prog) (HAT.out.below HB.out) 23 32 Try.underlying23 Try.sizeOf32 hx
      obtain ⟨e0, e1, e2⟩ := call_cells hcs
      have HX := Lib.hid (HWF.out x (List.mem_of_getElem? hx))
      obtain ⟨xk, xs, xi⟩ := x
      dsimp only at e0 e1 e2 HX
      clear hx hcs
      go_upto_block 2 with fail
      obtain ⟨W4, hW4⟩ : ∃ W4, W4 = wr.alloc (.cells #[.int .i64 xk, .int .u64 xs, .int .i64 xi] 32) := ⟨_, rfl⟩
      rw [← hW4]
      obtain ⟨cb, hcb⟩ : ∃ cb, cb = wr.heap.size := ⟨_, rfl⟩
      have HC4 : Hid (VarS W4 cb #[.int .i64 xk, .int .u64 xs, .int .i64 xi] 32) := Lib.hid (by rw [hW4, hcb]; exact heap_alloc_new _ _)
      have HS4 : Hid (SetV W4 sb mb S tk) := Lib.hid (by rw [hW4]; exact HS.out.below (bal (Below.refl _ _) _))
      have HR4 : Hid (RefV W4 rb w.heap.size S tk v) := Lib.hid (by rw [hW4]; exact HR.out.below (bal (Below.refl _ _) _))
      have HB4 : Hid (Below w.heap.size w W4) := Lib.hid (by rw [hW4]; exact HB.out.alloc HB.out.size _)
      rw [← hcb]
      clear hW4 hcb e0 e1 e2
      have AP := Lib.hid (apart_of HS4.out HR4.out)
      have nS : Hid (¬ mayS sb mb cb) := Lib.hid (fun h => h.elim (var_ne HC4.out HS4.out.var (show (32 : Nat) ≠ 49 by decide)) (fun e => HS4.out.held.ne HC4.out e.symm))
      have nR : Hid (¬ mayR rb v cb) := Lib.hid (fun h => h.elim (var_ne HC4.out HR4.out.var (show (32 : Nat) ≠ 29 by decide)) (own_ne_var HR4.out.own HC4.out (show (51 : Nat) ≠ 32 by decide)))
      have mS : Hid (∀ k, mayS sb mb k → w.heap.size ≤ k) := Lib.hid (fun k h => by rcases h with rfl | rfl <;> assumption)
      have mR : Hid (∀ k, mayR rb v k → w.heap.size ≤ k) := Lib.hid (fun k h => h.elim (fun e => e ▸ hr0) (fun e => (own_lt HR4.out.own e).2))
      have c0 : W4.cell? ⟨cb, 0, none⟩ = some (.int .i64 xk) := HC4.out.cell 0
      have c1 : W4.cell? ⟨cb, 1, none⟩ = some (.int .u64 xs) := HC4.out.cell 1
      have c2 : W4.cell? ⟨cb, 2, none⟩ = some (.int .i64 xi) := HC4.out.cell 2
      go_cut [] (fun wx => ∃ (S' : List (Int × Int)) (tk' : Int) (v' : Value), Hid (SetV wx sb mb S' tk') ∧ Hid (RefV wx rb w.heap.size S' tk' v') ∧ Hid (IdsS S' tk') ∧ S'.length ≤ 100 ∧ 0 ≤ tk' ∧ tk' ≤ n + 1 ∧ Hid (Below w.heap.size w wx))
      case first =>
        by_cases k1 : xk = 1
        · have hk : (xk == 1) = true := by simp [k1]
          clear k1
          by_cases hfull : 100 ≤ S.length
          · go_wp2_with (first
              | (go_at_call 9; refine (takeFull_any sb mb S tk xs _ HS4.out hfull).mono ?_; rintro e w5 ⟨rfl, rfl⟩)
              | (go_at_call 10; refine (refTakeFull_any rb w.heap.size S tk xs v _ HR4.out hfull).mono ?_; rintro e w6 ⟨rfl, rfl⟩))
            go_meet
            exact ⟨S, tk, v, HS4, HR4, HI, hS, h0, by omega, HB4⟩
          · have htt : (tk != tk) = false := by simp
            go_wp2_with (first
              | (go_at_call 9; refine (take_any sb mb S tk xs _ HS4.out (by omega) h0 (by omega) HX.out.1 HI.out.new).mono ?_; rintro e w5 ⟨rfl, hs5, ho5⟩; have HS5 := Lib.hid hs5; have HO5 := Lib.hid ho5; have HR5 := Lib.hid (HR4.out.only ho5 AP.out.r AP.out.g); have cc1 : w5.cell? ⟨cb, 1, none⟩ = some (.int .u64 xs) := (HC4.out.only ho5 nS.out).cell 1; clear hs5 ho5)
              | (go_at_call 10; refine (refTake_any rb w.heap.size S tk xs v _ HR5.out (Nat.le_trans HB4.out.size HO5.out.size) (by omega) h0 (by omega)).mono ?_; rintro e w6 ⟨rfl, ⟨v6, hr6⟩, ho6⟩; have HR6 := Lib.hid hr6; have HO6 := Lib.hid ho6; clear hr6 ho6))
            go_meet
            refine ⟨S ++ [(tk, xs)], tk + 1, v6, Lib.hid (HS5.out.only HO6.out AP.out.s AP.out.m), HR6, Lib.hid (HI.out.add xs), by simp; omega, by omega, by omega, Lib.hid ?_⟩
            have b5 := HB4.out.trans (HO5.out.below HB4.out.size mS.out)
            exact b5.trans (HO6.out.below b5.size mR.out)
        · have hk : (xk == 1) = false := by simp [k1]
          clear k1
          by_cases k2 : xk = 2
          · have hk2 : (xk == 2) = true := by simp [k2]
            clear k2
            obtain ⟨E, hE⟩ : ∃ E : Int, E = if S.any (fun p => p.1 == xi) then 0 else 200 := ⟨_, rfl⟩
            obtain ⟨Q, hQ⟩ : ∃ Q : Int, Q = (seqS S xi).getD 0 := ⟨_, rfl⟩
            have HE := Lib.hid hE
            have HQ := Lib.hid hQ
            have hee : (E != E) = false := by simp
            have hqq : (Q != Q) = false := by simp
            clear hE hQ
            go_wp2_with (first
              | (go_at_call 11; refine (seq_any sb mb S tk xi _ HS4.out HX.out.2).mono ?_; rw [← HE.out, ← HQ.out]; rintro e w5 ⟨rfl, rfl⟩)
              | (go_at_call 12; refine (refSeq_any rb w.heap.size S tk xi v _ HR4.out (by omega)).mono ?_; rw [← HE.out, ← HQ.out]; rintro e w6 ⟨rfl, rfl⟩))
            go_meet
            exact ⟨S, tk, v, HS4, HR4, HI, hS, h0, by omega, HB4⟩
          · have hk2 : (xk == 2) = false := by simp [k2]
            clear k2
            by_cases k3 : xk = 3
            · have hk3 : (xk == 3) = true := by simp [k3]
              clear k3
              obtain ⟨E, hE⟩ : ∃ E : Int, E = if S.any (fun p => p.1 == xi) then 0 else 200 := ⟨_, rfl⟩
              have HE := Lib.hid hE
              have hee : (E != E) = false := by simp
              have hb4 := HB4.out
              have hv4 := HC4.out
              clear hE
              go_wp2_with fail
              go_region_held3 (fun wh => wh.cell? ⟨cb, 2, none⟩ = some (.int .i64 xi) ∧ VarS wh cb #[.int .i64 xk, .int .u64 xs, .int .i64 xi] 32)
                ((go_split_ands; (repeat' apply And.intro) <;> first | (with_reducible assumption) | (focus (refine HC4.out.below ?_; (repeat (first | exact Below.refl _ _ | (with_reducible assumption) | refine bal ?_ _ | refine bset ?_ (by first | omega | (simp; done) | (simp; omega)) _ | refine bdr ?_ | refine bdrn ?_ _ | refine btr ?_ (by with_reducible assumption))); done)) | exact c2))
                (first
                  | (go_at_call 13; go_split_ands; refine (release_any sb mb S tk xi _ ?_ HX.out.2 HI.out.1).mono ?_; (first | (focus (refine HS4.out.below ?_; (repeat (first | exact Below.refl _ _ | (with_reducible assumption) | refine bal ?_ _ | refine bset ?_ (by first | omega | (simp; done) | (simp; omega)) _ | refine bdr ?_ | refine bdrn ?_ _ | refine btr ?_ (by with_reducible assumption))); done)) | (focus (refine ((HS4.out.below ?_).only ho13 AP.out.s AP.out.m).below ?_; all_goals (repeat (first | exact Below.refl _ _ | (with_reducible assumption) | refine bal ?_ _ | refine bset ?_ (by first | omega | (simp; done) | (simp; omega)) _ | refine bdr ?_ | refine bdrn ?_ _ | refine btr ?_ (by with_reducible assumption))); done))); rw [← HE.out]; rintro e w12 ⟨rfl, hs12, ho12⟩; have hc12 : VarS w12 cb #[.int .i64 xk, .int .u64 xs, .int .i64 xi] 32 := VarS.only (by assumption) ho12 nS.out; have cc12 : w12.cell? ⟨cb, 2, none⟩ = some (.int .i64 xi) := hc12.cell 2)
                  | (go_at_call 14; go_split_ands; refine (refRelease_any rb w.heap.size S tk xi v _ ?_ ?_ (by omega)).mono ?_; (first | (focus (refine HR4.out.below ?_; (repeat (first | exact Below.refl _ _ | (with_reducible assumption) | refine bal ?_ _ | refine bset ?_ (by first | omega | (simp; done) | (simp; omega)) _ | refine bdr ?_ | refine bdrn ?_ _ | refine btr ?_ (by with_reducible assumption))); done)) | (focus (refine ((HR4.out.below ?_).only ho12 AP.out.r AP.out.g).below ?_; all_goals (repeat (first | exact Below.refl _ _ | (with_reducible assumption) | refine bal ?_ _ | refine bset ?_ (by first | omega | (simp; done) | (simp; omega)) _ | refine bdr ?_ | refine bdrn ?_ _ | refine btr ?_ (by with_reducible assumption))); done))); (first | exact HB4.out.size | exact Nat.le_trans HB4.out.size ho12.size); rw [← HE.out]; rintro e w13 ⟨rfl, ⟨v13, hr13⟩, ho13⟩; have hc13 : VarS w13 cb #[.int .i64 xk, .int .u64 xs, .int .i64 xi] 32 := VarS.only (by assumption) ho13 nR.out; have cc13 : w13.cell? ⟨cb, 2, none⟩ = some (.int .i64 xi) := hc13.cell 2))
              all_goals (go_wp2_with fail; go_meet)
              all_goals refine ⟨S.filter fun p => p.1 != xi, tk, v13, Lib.hid ?_, Lib.hid ?_, Lib.hid (HI.out.del xi), Nat.le_trans (List.length_filter_le _ _) hS, h0, by omega, Lib.hid ?_⟩
              all_goals first
                | with_reducible assumption
                | exact hs12.only ho13 AP.out.s AP.out.m
                | (have hs14 := (HS4.out.below (bdr (Below.refl _ _))).only ho13 AP.out.s AP.out.m; have AP13 := apart_of hs14 hr13; exact hr13.only ho12 AP13.r AP13.g)
                | exact below_only (below_only hb4.drew ho12 mS.out) ho13 mR.out
                | exact below_only (below_only hb4.drew ho13 mR.out) ho12 mS.out
            · have hk3 : (xk == 3) = false := by simp [k3]
              clear k3
              go_wp2_with fail
              go_meet
              exact ⟨S, tk, v, HS4, HR4, HI, hS, h0, by omega, HB4⟩
      case rest =>
        obtain ⟨S', tk', v', HS5, HR5, HI5, hS5, ht0, ht1, HB5⟩ := hcut
        obtain ⟨W5, hW5⟩ : ∃ W5, W5 = wc := ⟨_, rfl⟩
        subst hW5
        clear c0 c1 c2
        obtain ⟨ls, hls⟩ : ∃ ls, ls = listS S' := ⟨_, rfl⟩
        have HLS := Lib.hid hls
        have HLL : Hid (ls.length ≤ 100) := Lib.hid (by rw [hls]; exact Nat.le_trans (listS_le S') hS5)
        clear hls
        go_wp2_with (first
          | (go_at_call 15; refine (list_any sb mb S' tk' _ HS5.out HI5.out.1 (by omega)).mono ?_; rw [← HLS.out]; rintro e w6 ⟨v6, rfl, hown6, hb6⟩; have HO6 := Lib.hid hown6; have B6 := Lib.hid hb6; obtain ⟨ao6, c6, hv6, hat6⟩ := at_of_own encN_len hown6 rfl; have HA6 := Lib.hid hat6; have HV6 := Lib.hid hv6; rw [hv6]; clear hown6 hb6 hat6 hv6)
          | (go_at_call 17; refine (refList_any rb w.heap.size S' tk' v' _ (HR5.out.below B6.out) (by omega)).mono ?_; rw [← HLS.out]; rintro e w7 ⟨v7, rfl, hown7, hb7⟩; obtain ⟨ao7, c7, rfl, hat7⟩ := at_of_own encN_len hown7 rfl; have HA7 := Lib.hid hat7; have B7 := Lib.hid hb7; clear hown7 hat7 hb7)
          | (go_at_call 16; refine (same20_any ao6 c6 ao7 c7 ls _ (HA6.out.below B7.out) HA7.out (by have := HLL.out; omega)).mono ?_; rintro e w8 ⟨rfl, hb8⟩; have B8 := Lib.hid (btr (btr B6.out B7.out) hb8); have HO8 := Lib.hid (own_below (own_below HO6.out B7.out) hb8); clear hb8))
        have hnl : n + 1 ≤ cs.length := hlt
        rcases own_cases HO8.out with ⟨hv, hl⟩ | ⟨g, cap, cur, hv, hg, hvar, hcl⟩
        · have hz0 : ¬ ((0 : Int) < (ls.length : Int)) := by omega
          have hz1 : decide ((0 : Int) < (ls.length : Int)) = false := decide_eq_false hz0
          clear hv hl
          go_loopw [18] (fun i wr => i = .int .i64 0 ∧ wr = w8) (fun _ _ => 0)
          case atStart => exact ⟨rfl, rfl⟩
          case round =>
            obtain ⟨rfl, rfl⟩ := hrel
            have hb := B8.out
            go_wp2
            go_roundw
            case rel => exact ⟨n + 1, S', tk', v', by omega, by go_num, Lib.hid (HS5.out.below hb), Lib.hid (HR5.out.below hb), HI5, hS5, ht0, by omega, Lib.hid (btr HB5.out hb)⟩
            case measure => simp [intOf]; omega
        · have h := HV6.out.symm.trans hv
          injection h with h1 h2 h3
          subst h1
          have HVC := Lib.hid hvar
          clear hv h2 h3 hvar
          go_loopw [18] (fun i wr => ∃ (k : Nat) (cu : Array Value), k ≤ ls.length ∧ i = .int .i64 k ∧ Hid (VarS wr g cu 30) ∧ ls.length ≤ cu.size ∧ Below W5.heap.size W5 wr) (fun i _ => ls.length - (intOf i).toNat)
          case atStart => exact ⟨0, cur, Nat.zero_le _, rfl, HVC, hcl, B8.out⟩
          case round =>
            obtain ⟨k, cu, hk, rfl, hvr, hcu, hb⟩ := hrel
            have hll := HLL.out
            by_cases hltk : k < ls.length
            · obtain ⟨u, hu⟩ : ∃ u, cu[k]? = some u := ⟨_, Array.getElem?_eq_getElem (by omega)⟩
              have d : wr.cell? ⟨g, k, none⟩ = some u := (hvr.out.cell k).trans hu
              have f := hvr.out.free k
              have hgl := hvr.out.lt
              have hix := fun wx => idx_own (P := Try.prog) 39 30 Try.underlying39 Try.sizeOf30 g ls.length c6 k hltk wx
              clear hu
              go_wp2
              go_roundw
              case rel => exact ⟨k + 1, cu.setIfInBounds k (.int .u64 99), by omega, by go_num, Lib.hid (hvr.out.set k _), by simpa using hcu, bset hb hg _⟩
              case measure => simp [intOf]; omega
            · obtain rfl : k = ls.length := by omega
              go_wp2
              go_roundw
              case rel => exact ⟨n + 1, S', tk', v', by omega, by go_num, Lib.hid (HS5.out.below hb), Lib.hid (HR5.out.below hb), HI5, hS5, ht0, by omega, Lib.hid (btr HB5.out hb)⟩
              case measure => simp [intOf]; omega
    · obtain rfl : n = cs.length := by omega
      go_wp2
      go_ret
      exact ⟨rfl, HB.out⟩

end Go.Proofs.Yteofjdiflpddbaa
