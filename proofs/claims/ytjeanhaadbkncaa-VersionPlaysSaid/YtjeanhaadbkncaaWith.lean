/- The walk of the reference's with: a file laid in its place. -/
import Derived.Test.YtjeanhaadbkncaaPut
import Derived.Test.YtjeanhaadbkncaaRefOver
namespace Go.Proofs.Ytjeanhaadbkncaa
open Go.RowKit

theorem putI_before {xs : List Fl} {f x : Fl} {n : Nat} (h : n < putI xs f) (hx : xs[n]? = some x) : aheadS f.lv f.nu f.lu x.nu x.su = false := by
  unfold putI at h
  split at h
  · rename_i i hi
    obtain ⟨hl, h1, h2⟩ := List.findIdx?_eq_some_iff_getElem.1 hi
    have := h2 n h
    rw [List.getElem?_eq_getElem (by omega)] at hx
    cases hx
    simpa using this
  · rename_i hi
    rw [List.findIdx?_eq_none_iff] at hi
    exact hi x (List.mem_of_getElem? hx)
theorem putI_at {xs : List Fl} {f x : Fl} (hx : xs[putI xs f]? = some x) : aheadS f.lv f.nu f.lu x.nu x.su = true := by
  cases hi : xs.findIdx? (fun o => aheadS f.lv f.nu f.lu o.nu o.su) with
  | none =>
    have : putI xs f = xs.length := by unfold putI; rw [hi]
    rw [this] at hx
    simp at hx
  | some i =>
    have : putI xs f = i := by unfold putI; rw [hi]
    rw [this] at hx
    obtain ⟨hl, h1, h2⟩ := List.findIdx?_eq_some_iff_getElem.1 hi
    rw [List.getElem?_eq_getElem hl] at hx
    cases hx
    exact h1
/-- The part that is laid when n were seen. -/
def insT (xs : List Fl) (p : Nat) (f : Fl) (n : Nat) : List Fl := if n ≤ p then xs.take n else insS (xs.take n) p f
theorem take_snoc {xs : List Fl} {n : Nat} {x : Fl} (h : xs[n]? = some x) : xs.take (n + 1) = xs.take n ++ [x] := by rw [List.take_add_one, h]; rfl
theorem insT_before {xs : List Fl} {p : Nat} {f x : Fl} {n : Nat} (hn : n < p) (h : xs[n]? = some x) : insT xs p f (n + 1) = insT xs p f n ++ [x] := by
  unfold insT
  rw [if_pos (by omega), if_pos (by omega), take_snoc h]
theorem insT_at {xs : List Fl} {p : Nat} {f x : Fl} (h : xs[p]? = some x) : insT xs p f (p + 1) = (insT xs p f p ++ [f]) ++ [x] := by
  have hl := (List.getElem?_eq_some_iff.1 h).1
  have e : (xs.take p).length = p := by rw [List.length_take]; omega
  unfold insT insS
  rw [if_neg (by omega), if_pos (Nat.le_refl _), take_snoc h, List.take_append_of_le_length (by omega), List.take_of_length_le (by omega), List.drop_append_of_le_length (by omega), List.drop_eq_nil_of_le (by omega)]
  simp
theorem insT_behind {xs : List Fl} {p : Nat} {f x : Fl} {n : Nat} (hn : p < n) (h : xs[n]? = some x) : insT xs p f (n + 1) = insT xs p f n ++ [x] := by
  have hl := (List.getElem?_eq_some_iff.1 h).1
  have e : (xs.take n).length = n := by rw [List.length_take]; omega
  unfold insT insS
  rw [if_neg (by omega), if_neg (by omega), take_snoc h, List.take_append_of_le_length (by omega), List.drop_append_of_le_length (by omega)]
  simp
theorem insT_end {xs : List Fl} {p : Nat} {f : Fl} (hp : p ≤ xs.length) : insT xs p f xs.length = if p < xs.length then insS xs p f else xs := by
  unfold insT
  by_cases h : p < xs.length
  · rw [if_neg (by omega), if_pos h, List.take_length]
  · rw [if_pos (by omega), if_neg h, List.take_length]
theorem insT_le (xs : List Fl) (p : Nat) (f : Fl) (n : Nat) : (insT xs p f n).length ≤ n + 1 := by
  unfold insT insS
  split
  · rw [List.length_take]; omega
  · simp; omega

set_option maxRecDepth 100000 in
set_option maxHeartbeats 8000000 in
theorem with_any (ao : Option Addr) (c : Nat) (xs : List Fl) (f : Fl) (w : World) (hat : At w encF 9 ao c xs) (hsz : xs.length ≤ 1000000) :
    Calls Try.prog 39 #[.slice ao xs.length c, .agg (encF f).toArray] w fun e w' =>
      ∃ ao' c', e = .returned (.slice ao' (putS xs f).length c') ∧ At w' encF 9 ao' c' (putS xs f) ∧ (∀ b, ao' = some b → w.heap.size ≤ b.block) ∧ Below w.heap.size w w' := by
  have hple := putI_le xs f
  have HP : Hid (putS xs f = insS xs (putI xs f) f) := rfl
  have hbef := fun n x h hx => putI_before (xs := xs) (f := f) (n := n) (x := x) h hx
  have hatp := fun x hx => putI_at (xs := xs) (f := f) (x := x) hx
  obtain ⟨p, hp⟩ : ∃ p, p = putI xs f := ⟨_, rfl⟩
  rw [← hp] at hple HP hbef hatp
  obtain ⟨lv, nu, sz, su, ss, sk, lu, ls, lk⟩ := f
  have HBEF := Lib.hid hbef
  have HATP := Lib.hid hatp
  obtain ⟨g, hg⟩ : ∃ g : Fl, g = ⟨lv, nu, sz, su, ss, sk, lu, ls, lk⟩ := ⟨_, rfl⟩
  change Calls Try.prog 39 #[.slice ao xs.length c, .agg #[.int .i64 lv, .int .u64 nu, .int .i64 sz, .string su, .int .u64 ss, .int .i64 sk, .string lu, .int .u64 ls, .int .i64 lk]] w _
  obtain ⟨W0, hW0⟩ : ∃ W0, W0 = w.alloc (.cells #[.int .i64 lv, .int .u64 nu, .int .i64 sz, .string su, .int .u64 ss, .int .i64 sk, .string lu, .int .u64 ls, .int .i64 lk] 50) := ⟨_, rfl⟩
  have hb0 : Below w.heap.size w W0 := by rw [hW0]; exact bal (Below.refl _ _) _
  have hv0 : Var W0 w.heap.size #[.int .i64 lv, .int .u64 nu, .int .i64 sz, .string su, .int .u64 ss, .int .i64 sk, .string lu, .int .u64 ls, .int .i64 lk] 50 := by rw [hW0]; exact Var.new _ _ _
  have hat0 := hat.below hb0
  have hlt0 : w.heap.size < W0.heap.size := hv0.lt
  have HAT := Lib.hid hat0
  have HV := Lib.hid hv0
  have HW := Lib.hid hW0
  rw [← hg] at HP HBEF HATP
  have HG := Lib.hid hg
  clear hat hat0 hbef hatp hv0 hW0 hp hg
  go_enter Try.func39, Try.ntmps39
  go_wp2_with fail
  rw [← HW.out]
  go_loopw [5, 6, 7] (fun v d i wr => ∃ n : Nat, n ≤ xs.length ∧ i = .int .i64 n ∧ d = .bool (decide (p < n)) ∧ wr.ownsRow W0.heap.size 50 9 v (insT xs p g n).length ((insT xs p g n).flatMap encF) ∧ Below W0.heap.size W0 wr) (fun _ _ i _ => xs.length - (intOf i).toNat)
  case atStart => exact ⟨0, Nat.zero_le _, rfl, by simp, by simp [insT, World.ownsRow_nil], Below.refl _ _⟩
  case round =>
    obtain ⟨n, hn, rfl, hd, hown, hb⟩ := hrel
    have hd0 := Lib.hid hd
    clear hd
    obtain ⟨wm, hwm⟩ : ∃ wm, wm = wr := ⟨_, rfl⟩
    subst hwm
    have hvr := HV.out.below hb
    have f0 := hvr.cell 0
    have f1 := hvr.cell 1
    have f2 := hvr.cell 2
    have f3 := hvr.cell 3
    have f4 := hvr.cell 4
    have f5 := hvr.cell 5
    have f6 := hvr.cell 6
    have f7 := hvr.cell 7
    have f8 := hvr.cell 8
    have hltm : w.heap.size < wm.heap.size := hvr.lt
    clear hvr
    by_cases hlt : n < xs.length
    · obtain ⟨x, hx⟩ : ∃ x, xs[n]? = some x := ⟨_, List.getElem?_eq_getElem hlt⟩
      obtain ⟨b, off, hbl, hix, hcs⟩ := idx_at (P := Try.prog) HAT.out 23 50 Try.underlying23 Try.sizeOf50 hx
      have HX := Lib.hid hx
      clear hx
      obtain ⟨plv, pnu, psz, psu, pss, psk, plu, pls, plk⟩ := x
      have hfc := file_cells hcs
      dsimp only at hfc
      have HFC := Lib.hid hfc
      clear hcs hfc
      have p0 := kcell hb hbl HFC.out.1
      have p1 := kcell hb hbl HFC.out.2.1
      have p2 := kcell hb hbl HFC.out.2.2.1
      have p3 := kcell hb hbl HFC.out.2.2.2.1
      have p4 := kcell hb hbl HFC.out.2.2.2.2.1
      have p5 := kcell hb hbl HFC.out.2.2.2.2.2.1
      have p6 := kcell hb hbl HFC.out.2.2.2.2.2.2.1
      have p7 := kcell hb hbl HFC.out.2.2.2.2.2.2.2.1
      have p8 := kcell hb hbl HFC.out.2.2.2.2.2.2.2.2
      have hblm : b < wm.heap.size := Nat.lt_of_lt_of_le hbl hb.size
      have hil := insT_le xs p g n
      have HOWN := Lib.hid hown
      clear hown
      go_wp2_with fail
      go_region_held3 (fun wh => wh.cell? ⟨b, off + n * 9, none⟩ = some (.int .i64 plv) ∧ wh.cell? ⟨b, off + n * 9 + 1, none⟩ = some (.int .u64 pnu) ∧ wh.cell? ⟨b, off + n * 9 + 2, none⟩ = some (.int .i64 psz) ∧ wh.cell? ⟨b, off + n * 9 + 3, none⟩ = some (.string psu) ∧ wh.cell? ⟨b, off + n * 9 + 4, none⟩ = some (.int .u64 pss) ∧ wh.cell? ⟨b, off + n * 9 + 5, none⟩ = some (.int .i64 psk) ∧ wh.cell? ⟨b, off + n * 9 + 6, none⟩ = some (.string plu) ∧ wh.cell? ⟨b, off + n * 9 + 7, none⟩ = some (.int .u64 pls) ∧ wh.cell? ⟨b, off + n * 9 + 8, none⟩ = some (.int .i64 plk) ∧ wh.cell? ⟨w.heap.size, 0, none⟩ = some (.int .i64 lv) ∧ wh.cell? ⟨w.heap.size, 1, none⟩ = some (.int .u64 nu) ∧ wh.cell? ⟨w.heap.size, 2, none⟩ = some (.int .i64 sz) ∧ wh.cell? ⟨w.heap.size, 3, none⟩ = some (.string su) ∧ wh.cell? ⟨w.heap.size, 4, none⟩ = some (.int .u64 ss) ∧ wh.cell? ⟨w.heap.size, 5, none⟩ = some (.int .i64 sk) ∧ wh.cell? ⟨w.heap.size, 6, none⟩ = some (.string lu) ∧ wh.cell? ⟨w.heap.size, 7, none⟩ = some (.int .u64 ls) ∧ wh.cell? ⟨w.heap.size, 8, none⟩ = some (.int .i64 lk) ∧ Below wm.heap.size wm wh)
        ((go_split_ands; (repeat' apply And.intro) <;> first | (exact bdr (Below.refl _ _)) | assumption | (refine bkeep' hb9 ?_; assumption) | (refine btr ?_ hb9; assumption)))
        (first | (go_at_call 41; refine (apart_any _ _ _ _ _ _ _ _ _ _ _ _ _ _ _ _ _ _ _).mono ?_; rintro e w9 ⟨rfl, hb9⟩))
      rename_i hS9
      obtain ⟨q0, q1, q2, q3, q4, q5, q6, q7, q8, r0, r1, r2, r3, r4, r5, r6, r7, r8, hb9'⟩ := hS9
      have hlt9 : w.heap.size < w9.heap.size := Nat.lt_of_lt_of_le hltm hb9'.size
      have hbl9 : b < w9.heap.size := Nat.lt_of_lt_of_le hblm hb9'.size
      clear p0 p1 p2 p3 p4 p5 p6 p7 p8 f0 f1 f2 f3 f4 f5 f6 f7 f8
      have hbw : Below W0.heap.size W0 w9 := btr hb hb9'
      have HOWN9 := Lib.hid (own_below HOWN.out hb9')
      clear HOWN
      have hil2 : (insT xs p g n).length ≤ 1000001 := by omega
      by_cases hz : lv = 0
      · have hz1 : (lv == 0) = true := by simp [hz]
        have HZ := Lib.hid hz
        clear hz
        rcases (show n < p ∨ n = p ∨ p < n by omega) with hnp | hnp | hnp
        · have hdd := hd0.out.trans (show Value.bool (decide (p < n)) = .bool false by simp; omega)
          subst hdd
          have hah := HBEF.out n _ hnp HX.out
          rw [HG.out] at hah
          have hah : decide (pnu < nu) = false := by simpa [aheadS, hz1] using hah
          have hah2 : ¬ (pnu < nu) := by simpa using hah
          go_wp2_with fail
          go_quiet (fail)
          obtain ⟨wx, hwx⟩ : ∃ wx, wx = w9.drewN nq := ⟨_, rfl⟩
          have hbx : Below W0.heap.size W0 wx := by rw [hwx]; exact bdrn hbw nq
          have hownx := own_drewN HOWN9.out nq
          rw [← hwx] at hownx
          have HOWNX := Lib.hid hownx
          clear hownx
          rw [← hwx]
          have z0 := kcell hbx hbl HFC.out.1
          have z1 := kcell hbx hbl HFC.out.2.1
          have z2 := kcell hbx hbl HFC.out.2.2.1
          have z3 := kcell hbx hbl HFC.out.2.2.2.1
          have z4 := kcell hbx hbl HFC.out.2.2.2.2.1
          have z5 := kcell hbx hbl HFC.out.2.2.2.2.2.1
          have z6 := kcell hbx hbl HFC.out.2.2.2.2.2.2.1
          have z7 := kcell hbx hbl HFC.out.2.2.2.2.2.2.2.1
          have z8 := kcell hbx hbl HFC.out.2.2.2.2.2.2.2.2
          have k0 : wx.cell? ⟨w.heap.size, 0, none⟩ = some (.int .i64 lv) := by rw [hwx]; exact r0
          have k1 : wx.cell? ⟨w.heap.size, 1, none⟩ = some (.int .u64 nu) := by rw [hwx]; exact r1
          have k2 : wx.cell? ⟨w.heap.size, 2, none⟩ = some (.int .i64 sz) := by rw [hwx]; exact r2
          have k3 : wx.cell? ⟨w.heap.size, 3, none⟩ = some (.string su) := by rw [hwx]; exact r3
          have k4 : wx.cell? ⟨w.heap.size, 4, none⟩ = some (.int .u64 ss) := by rw [hwx]; exact r4
          have k5 : wx.cell? ⟨w.heap.size, 5, none⟩ = some (.int .i64 sk) := by rw [hwx]; exact r5
          have k6 : wx.cell? ⟨w.heap.size, 6, none⟩ = some (.string lu) := by rw [hwx]; exact r6
          have k7 : wx.cell? ⟨w.heap.size, 7, none⟩ = some (.int .u64 ls) := by rw [hwx]; exact r7
          have k8 : wx.cell? ⟨w.heap.size, 8, none⟩ = some (.int .i64 lk) := by rw [hwx]; exact r8
          have hlx : w.heap.size < wx.heap.size := Nat.lt_of_lt_of_le hlt0 hbx.size
          have hblx : b < wx.heap.size := Nat.lt_of_lt_of_le hbl hbx.size
          clear hwx q0 q1 q2 q3 q4 q5 q6 q7 q8 r0 r1 r2 r3 r4 r5 r6 r7 r8
          go_wp2_with ((at_builtin; refine wpList_append_at _ (o := ⟨some 47, _, _, _, _, _⟩) rfl (.tmp 41) (.tmp 46) 23 rfl encF 9 encF_len encF_one W0.heap.size 50 _ 88 Try.underlying23 Try.infoFile rfl (by decide) _ _ rfl (HOWNX.out.alloc _) _ _ _ [⟨plv, pnu, psz, psu, pss, psk, plu, pls, plk⟩] rfl rfl (at_one _ encF 9 _ encF_len ⟨plv, pnu, psz, psu, pss, psk, plu, pls, plk⟩ _ rfl) (by simp only [List.length_cons, List.length_nil]; omega) (by simp only [List.length_cons, List.length_nil, maxLen]; omega) (Nat.le_trans hbx.size (by simp)) ?_; intro v3 w3 hown3 hgrow3; have hB3 := bgr (bal hbx _) (HOWNX.out.alloc _) hgrow3))
          go_roundw
          case rel => exact ⟨n + 1, by omega, by go_num, by simp; omega, by rw [insT_before hnp HX.out]; exact hown3, hB3⟩
          case measure => simp [intOf]; omega
        · subst hnp
          have hdd := hd0.out.trans (show Value.bool (decide (n < n)) = .bool false by simp)
          subst hdd
          have hah := HATP.out _ HX.out
          rw [HG.out] at hah
          have hah : decide (pnu < nu) = true := by simpa [aheadS, hz1] using hah
          have hah2 : pnu < nu := by simpa using hah
          go_wp2_with fail
          go_quiet (fail)
          obtain ⟨wx, hwx⟩ : ∃ wx, wx = w9.drewN nq := ⟨_, rfl⟩
          have hbx : Below W0.heap.size W0 wx := by rw [hwx]; exact bdrn hbw nq
          have hownx := own_drewN HOWN9.out nq
          rw [← hwx] at hownx
          have HOWNX := Lib.hid hownx
          clear hownx
          rw [← hwx]
          have z0 := kcell hbx hbl HFC.out.1
          have z1 := kcell hbx hbl HFC.out.2.1
          have z2 := kcell hbx hbl HFC.out.2.2.1
          have z3 := kcell hbx hbl HFC.out.2.2.2.1
          have z4 := kcell hbx hbl HFC.out.2.2.2.2.1
          have z5 := kcell hbx hbl HFC.out.2.2.2.2.2.1
          have z6 := kcell hbx hbl HFC.out.2.2.2.2.2.2.1
          have z7 := kcell hbx hbl HFC.out.2.2.2.2.2.2.2.1
          have z8 := kcell hbx hbl HFC.out.2.2.2.2.2.2.2.2
          have k0 : wx.cell? ⟨w.heap.size, 0, none⟩ = some (.int .i64 lv) := by rw [hwx]; exact r0
          have k1 : wx.cell? ⟨w.heap.size, 1, none⟩ = some (.int .u64 nu) := by rw [hwx]; exact r1
          have k2 : wx.cell? ⟨w.heap.size, 2, none⟩ = some (.int .i64 sz) := by rw [hwx]; exact r2
          have k3 : wx.cell? ⟨w.heap.size, 3, none⟩ = some (.string su) := by rw [hwx]; exact r3
          have k4 : wx.cell? ⟨w.heap.size, 4, none⟩ = some (.int .u64 ss) := by rw [hwx]; exact r4
          have k5 : wx.cell? ⟨w.heap.size, 5, none⟩ = some (.int .i64 sk) := by rw [hwx]; exact r5
          have k6 : wx.cell? ⟨w.heap.size, 6, none⟩ = some (.string lu) := by rw [hwx]; exact r6
          have k7 : wx.cell? ⟨w.heap.size, 7, none⟩ = some (.int .u64 ls) := by rw [hwx]; exact r7
          have k8 : wx.cell? ⟨w.heap.size, 8, none⟩ = some (.int .i64 lk) := by rw [hwx]; exact r8
          have hlx : w.heap.size < wx.heap.size := Nat.lt_of_lt_of_le hlt0 hbx.size
          have hblx : b < wx.heap.size := Nat.lt_of_lt_of_le hbl hbx.size
          clear hwx q0 q1 q2 q3 q4 q5 q6 q7 q8 r0 r1 r2 r3 r4 r5 r6 r7 r8
          go_wp2_with (first | (at_builtin; go_loud (refine wpList_append_at _ (o := ⟨some 40, _, _, _, _, _⟩) rfl (.tmp 37) (.tmp 39) 23 rfl encF 9 encF_len encF_one W0.heap.size 50 _ 88 Try.underlying23 Try.infoFile rfl (by decide) _ _ rfl (HOWNX.out.alloc _) _ _ _ [⟨lv, nu, sz, su, ss, sk, lu, ls, lk⟩] rfl rfl (at_one _ encF 9 _ encF_len ⟨lv, nu, sz, su, ss, sk, lu, ls, lk⟩ _ rfl) (by simp only [List.length_append, List.length_cons, List.length_nil]; omega) (by simp only [List.length_append, List.length_cons, List.length_nil, maxLen]; omega) (Nat.le_trans hbx.size (by simp)) ?_); intro v2 w2 hown2 hgrow2; have hB2 := bgr (bal hbx _) (HOWNX.out.alloc _) hgrow2; have y0 := kcell hB2 hbl HFC.out.1; have y1 := kcell hB2 hbl HFC.out.2.1; have y2 := kcell hB2 hbl HFC.out.2.2.1; have y3 := kcell hB2 hbl HFC.out.2.2.2.1; have y4 := kcell hB2 hbl HFC.out.2.2.2.2.1; have y5 := kcell hB2 hbl HFC.out.2.2.2.2.2.1; have y6 := kcell hB2 hbl HFC.out.2.2.2.2.2.2.1; have y7 := kcell hB2 hbl HFC.out.2.2.2.2.2.2.2.1; have y8 := kcell hB2 hbl HFC.out.2.2.2.2.2.2.2.2; have hb2s : b < w2.heap.size := Nat.lt_of_lt_of_le hbl hB2.size) | (at_builtin; refine wpList_append_at _ (o := ⟨some 47, _, _, _, _, _⟩) rfl (.tmp 41) (.tmp 46) 23 rfl encF 9 encF_len encF_one W0.heap.size 50 _ 88 Try.underlying23 Try.infoFile rfl (by decide) _ _ rfl (hown2.alloc _) _ _ _ [⟨plv, pnu, psz, psu, pss, psk, plu, pls, plk⟩] rfl rfl (at_one _ encF 9 _ encF_len ⟨plv, pnu, psz, psu, pss, psk, plu, pls, plk⟩ _ rfl) (by simp only [List.length_append, List.length_cons, List.length_nil]; omega) (by simp only [List.length_append, List.length_cons, List.length_nil, maxLen]; omega) (Nat.le_trans hB2.size (by simp)) ?_; intro v3 w3 hown3 hgrow3; have hB3 := bgr (bal hB2 _) (hown2.alloc _) hgrow3))
          go_roundw
          case rel => exact ⟨n + 1, by omega, by go_num, by simp, by rw [insT_at HX.out, HG.out]; rw [HG.out] at hown3; exact hown3, hB3⟩
          case measure => simp [intOf]; omega
        · have hdd := hd0.out.trans (show Value.bool (decide (p < n)) = .bool true by simp; omega)
          subst hdd
          go_wp2_with fail
          go_quiet (fail)
          obtain ⟨wx, hwx⟩ : ∃ wx, wx = w9.drewN nq := ⟨_, rfl⟩
          have hbx : Below W0.heap.size W0 wx := by rw [hwx]; exact bdrn hbw nq
          have hownx := own_drewN HOWN9.out nq
          rw [← hwx] at hownx
          have HOWNX := Lib.hid hownx
          clear hownx
          rw [← hwx]
          have z0 := kcell hbx hbl HFC.out.1
          have z1 := kcell hbx hbl HFC.out.2.1
          have z2 := kcell hbx hbl HFC.out.2.2.1
          have z3 := kcell hbx hbl HFC.out.2.2.2.1
          have z4 := kcell hbx hbl HFC.out.2.2.2.2.1
          have z5 := kcell hbx hbl HFC.out.2.2.2.2.2.1
          have z6 := kcell hbx hbl HFC.out.2.2.2.2.2.2.1
          have z7 := kcell hbx hbl HFC.out.2.2.2.2.2.2.2.1
          have z8 := kcell hbx hbl HFC.out.2.2.2.2.2.2.2.2
          have k0 : wx.cell? ⟨w.heap.size, 0, none⟩ = some (.int .i64 lv) := by rw [hwx]; exact r0
          have k1 : wx.cell? ⟨w.heap.size, 1, none⟩ = some (.int .u64 nu) := by rw [hwx]; exact r1
          have k2 : wx.cell? ⟨w.heap.size, 2, none⟩ = some (.int .i64 sz) := by rw [hwx]; exact r2
          have k3 : wx.cell? ⟨w.heap.size, 3, none⟩ = some (.string su) := by rw [hwx]; exact r3
          have k4 : wx.cell? ⟨w.heap.size, 4, none⟩ = some (.int .u64 ss) := by rw [hwx]; exact r4
          have k5 : wx.cell? ⟨w.heap.size, 5, none⟩ = some (.int .i64 sk) := by rw [hwx]; exact r5
          have k6 : wx.cell? ⟨w.heap.size, 6, none⟩ = some (.string lu) := by rw [hwx]; exact r6
          have k7 : wx.cell? ⟨w.heap.size, 7, none⟩ = some (.int .u64 ls) := by rw [hwx]; exact r7
          have k8 : wx.cell? ⟨w.heap.size, 8, none⟩ = some (.int .i64 lk) := by rw [hwx]; exact r8
          have hlx : w.heap.size < wx.heap.size := Nat.lt_of_lt_of_le hlt0 hbx.size
          have hblx : b < wx.heap.size := Nat.lt_of_lt_of_le hbl hbx.size
          clear hwx q0 q1 q2 q3 q4 q5 q6 q7 q8 r0 r1 r2 r3 r4 r5 r6 r7 r8
          go_wp2_with ((at_builtin; refine wpList_append_at _ (o := ⟨some 47, _, _, _, _, _⟩) rfl (.tmp 41) (.tmp 46) 23 rfl encF 9 encF_len encF_one W0.heap.size 50 _ 88 Try.underlying23 Try.infoFile rfl (by decide) _ _ rfl (HOWNX.out.alloc _) _ _ _ [⟨plv, pnu, psz, psu, pss, psk, plu, pls, plk⟩] rfl rfl (at_one _ encF 9 _ encF_len ⟨plv, pnu, psz, psu, pss, psk, plu, pls, plk⟩ _ rfl) (by simp only [List.length_cons, List.length_nil]; omega) (by simp only [List.length_cons, List.length_nil, maxLen]; omega) (Nat.le_trans hbx.size (by simp)) ?_; intro v3 w3 hown3 hgrow3; have hB3 := bgr (bal hbx _) (HOWNX.out.alloc _) hgrow3))
          go_roundw
          case rel => exact ⟨n + 1, by omega, by go_num, by simp; omega, by rw [insT_behind hnp HX.out]; exact hown3, hB3⟩
          case measure => simp [intOf]; omega
      · have hz1 : (lv == 0) = false := by simp [hz]
        have HZ := Lib.hid hz
        clear hz
        rcases (show n < p ∨ n = p ∨ p < n by omega) with hnp | hnp | hnp
        · have hdd := hd0.out.trans (show Value.bool (decide (p < n)) = .bool false by simp; omega)
          subst hdd
          have hah := HBEF.out n _ hnp HX.out
          rw [HG.out] at hah
          have hah : ltB lu psu = false := by simpa [aheadS, hz1] using hah
          obtain ⟨wx, hwx⟩ : ∃ wx, wx = w9 := ⟨_, rfl⟩
          have hbx : Below W0.heap.size W0 wx := by rw [hwx]; exact hbw
          have hownx := HOWN9.out
          rw [← hwx] at hownx
          have HOWNX := Lib.hid hownx
          clear hownx
          rw [← hwx]
          have z0 := kcell hbx hbl HFC.out.1
          have z1 := kcell hbx hbl HFC.out.2.1
          have z2 := kcell hbx hbl HFC.out.2.2.1
          have z3 := kcell hbx hbl HFC.out.2.2.2.1
          have z4 := kcell hbx hbl HFC.out.2.2.2.2.1
          have z5 := kcell hbx hbl HFC.out.2.2.2.2.2.1
          have z6 := kcell hbx hbl HFC.out.2.2.2.2.2.2.1
          have z7 := kcell hbx hbl HFC.out.2.2.2.2.2.2.2.1
          have z8 := kcell hbx hbl HFC.out.2.2.2.2.2.2.2.2
          have k0 : wx.cell? ⟨w.heap.size, 0, none⟩ = some (.int .i64 lv) := by rw [hwx]; exact r0
          have k1 : wx.cell? ⟨w.heap.size, 1, none⟩ = some (.int .u64 nu) := by rw [hwx]; exact r1
          have k2 : wx.cell? ⟨w.heap.size, 2, none⟩ = some (.int .i64 sz) := by rw [hwx]; exact r2
          have k3 : wx.cell? ⟨w.heap.size, 3, none⟩ = some (.string su) := by rw [hwx]; exact r3
          have k4 : wx.cell? ⟨w.heap.size, 4, none⟩ = some (.int .u64 ss) := by rw [hwx]; exact r4
          have k5 : wx.cell? ⟨w.heap.size, 5, none⟩ = some (.int .i64 sk) := by rw [hwx]; exact r5
          have k6 : wx.cell? ⟨w.heap.size, 6, none⟩ = some (.string lu) := by rw [hwx]; exact r6
          have k7 : wx.cell? ⟨w.heap.size, 7, none⟩ = some (.int .u64 ls) := by rw [hwx]; exact r7
          have k8 : wx.cell? ⟨w.heap.size, 8, none⟩ = some (.int .i64 lk) := by rw [hwx]; exact r8
          have hlx : w.heap.size < wx.heap.size := Nat.lt_of_lt_of_le hlt0 hbx.size
          have hblx : b < wx.heap.size := Nat.lt_of_lt_of_le hbl hbx.size
          clear hwx q0 q1 q2 q3 q4 q5 q6 q7 q8 r0 r1 r2 r3 r4 r5 r6 r7 r8
          go_wp2_with ((at_builtin; refine wpList_append_at _ (o := ⟨some 47, _, _, _, _, _⟩) rfl (.tmp 41) (.tmp 46) 23 rfl encF 9 encF_len encF_one W0.heap.size 50 _ 88 Try.underlying23 Try.infoFile rfl (by decide) _ _ rfl (HOWNX.out.alloc _) _ _ _ [⟨plv, pnu, psz, psu, pss, psk, plu, pls, plk⟩] rfl rfl (at_one _ encF 9 _ encF_len ⟨plv, pnu, psz, psu, pss, psk, plu, pls, plk⟩ _ rfl) (by simp only [List.length_cons, List.length_nil]; omega) (by simp only [List.length_cons, List.length_nil, maxLen]; omega) (Nat.le_trans hbx.size (by simp)) ?_; intro v3 w3 hown3 hgrow3; have hB3 := bgr (bal hbx _) (HOWNX.out.alloc _) hgrow3))
          go_roundw
          case rel => exact ⟨n + 1, by omega, by go_num, by simp; omega, by rw [insT_before hnp HX.out]; exact hown3, hB3⟩
          case measure => simp [intOf]; omega
        · subst hnp
          have hdd := hd0.out.trans (show Value.bool (decide (n < n)) = .bool false by simp)
          subst hdd
          have hah := HATP.out _ HX.out
          rw [HG.out] at hah
          have hah : ltB lu psu = true := by simpa [aheadS, hz1] using hah
          obtain ⟨wx, hwx⟩ : ∃ wx, wx = w9 := ⟨_, rfl⟩
          have hbx : Below W0.heap.size W0 wx := by rw [hwx]; exact hbw
          have hownx := HOWN9.out
          rw [← hwx] at hownx
          have HOWNX := Lib.hid hownx
          clear hownx
          rw [← hwx]
          have z0 := kcell hbx hbl HFC.out.1
          have z1 := kcell hbx hbl HFC.out.2.1
          have z2 := kcell hbx hbl HFC.out.2.2.1
          have z3 := kcell hbx hbl HFC.out.2.2.2.1
          have z4 := kcell hbx hbl HFC.out.2.2.2.2.1
          have z5 := kcell hbx hbl HFC.out.2.2.2.2.2.1
          have z6 := kcell hbx hbl HFC.out.2.2.2.2.2.2.1
          have z7 := kcell hbx hbl HFC.out.2.2.2.2.2.2.2.1
          have z8 := kcell hbx hbl HFC.out.2.2.2.2.2.2.2.2
          have k0 : wx.cell? ⟨w.heap.size, 0, none⟩ = some (.int .i64 lv) := by rw [hwx]; exact r0
          have k1 : wx.cell? ⟨w.heap.size, 1, none⟩ = some (.int .u64 nu) := by rw [hwx]; exact r1
          have k2 : wx.cell? ⟨w.heap.size, 2, none⟩ = some (.int .i64 sz) := by rw [hwx]; exact r2
          have k3 : wx.cell? ⟨w.heap.size, 3, none⟩ = some (.string su) := by rw [hwx]; exact r3
          have k4 : wx.cell? ⟨w.heap.size, 4, none⟩ = some (.int .u64 ss) := by rw [hwx]; exact r4
          have k5 : wx.cell? ⟨w.heap.size, 5, none⟩ = some (.int .i64 sk) := by rw [hwx]; exact r5
          have k6 : wx.cell? ⟨w.heap.size, 6, none⟩ = some (.string lu) := by rw [hwx]; exact r6
          have k7 : wx.cell? ⟨w.heap.size, 7, none⟩ = some (.int .u64 ls) := by rw [hwx]; exact r7
          have k8 : wx.cell? ⟨w.heap.size, 8, none⟩ = some (.int .i64 lk) := by rw [hwx]; exact r8
          have hlx : w.heap.size < wx.heap.size := Nat.lt_of_lt_of_le hlt0 hbx.size
          have hblx : b < wx.heap.size := Nat.lt_of_lt_of_le hbl hbx.size
          clear hwx q0 q1 q2 q3 q4 q5 q6 q7 q8 r0 r1 r2 r3 r4 r5 r6 r7 r8
          go_wp2_with (first | (at_builtin; go_loud (refine wpList_append_at _ (o := ⟨some 40, _, _, _, _, _⟩) rfl (.tmp 37) (.tmp 39) 23 rfl encF 9 encF_len encF_one W0.heap.size 50 _ 88 Try.underlying23 Try.infoFile rfl (by decide) _ _ rfl (HOWNX.out.alloc _) _ _ _ [⟨lv, nu, sz, su, ss, sk, lu, ls, lk⟩] rfl rfl (at_one _ encF 9 _ encF_len ⟨lv, nu, sz, su, ss, sk, lu, ls, lk⟩ _ rfl) (by simp only [List.length_append, List.length_cons, List.length_nil]; omega) (by simp only [List.length_append, List.length_cons, List.length_nil, maxLen]; omega) (Nat.le_trans hbx.size (by simp)) ?_); intro v2 w2 hown2 hgrow2; have hB2 := bgr (bal hbx _) (HOWNX.out.alloc _) hgrow2; have y0 := kcell hB2 hbl HFC.out.1; have y1 := kcell hB2 hbl HFC.out.2.1; have y2 := kcell hB2 hbl HFC.out.2.2.1; have y3 := kcell hB2 hbl HFC.out.2.2.2.1; have y4 := kcell hB2 hbl HFC.out.2.2.2.2.1; have y5 := kcell hB2 hbl HFC.out.2.2.2.2.2.1; have y6 := kcell hB2 hbl HFC.out.2.2.2.2.2.2.1; have y7 := kcell hB2 hbl HFC.out.2.2.2.2.2.2.2.1; have y8 := kcell hB2 hbl HFC.out.2.2.2.2.2.2.2.2; have hb2s : b < w2.heap.size := Nat.lt_of_lt_of_le hbl hB2.size) | (at_builtin; refine wpList_append_at _ (o := ⟨some 47, _, _, _, _, _⟩) rfl (.tmp 41) (.tmp 46) 23 rfl encF 9 encF_len encF_one W0.heap.size 50 _ 88 Try.underlying23 Try.infoFile rfl (by decide) _ _ rfl (hown2.alloc _) _ _ _ [⟨plv, pnu, psz, psu, pss, psk, plu, pls, plk⟩] rfl rfl (at_one _ encF 9 _ encF_len ⟨plv, pnu, psz, psu, pss, psk, plu, pls, plk⟩ _ rfl) (by simp only [List.length_append, List.length_cons, List.length_nil]; omega) (by simp only [List.length_append, List.length_cons, List.length_nil, maxLen]; omega) (Nat.le_trans hB2.size (by simp)) ?_; intro v3 w3 hown3 hgrow3; have hB3 := bgr (bal hB2 _) (hown2.alloc _) hgrow3))
          go_roundw
          case rel => exact ⟨n + 1, by omega, by go_num, by simp, by rw [insT_at HX.out, HG.out]; rw [HG.out] at hown3; exact hown3, hB3⟩
          case measure => simp [intOf]; omega
        · have hdd := hd0.out.trans (show Value.bool (decide (p < n)) = .bool true by simp; omega)
          subst hdd
          obtain ⟨wx, hwx⟩ : ∃ wx, wx = w9 := ⟨_, rfl⟩
          have hbx : Below W0.heap.size W0 wx := by rw [hwx]; exact hbw
          have hownx := HOWN9.out
          rw [← hwx] at hownx
          have HOWNX := Lib.hid hownx
          clear hownx
          rw [← hwx]
          have z0 := kcell hbx hbl HFC.out.1
          have z1 := kcell hbx hbl HFC.out.2.1
          have z2 := kcell hbx hbl HFC.out.2.2.1
          have z3 := kcell hbx hbl HFC.out.2.2.2.1
          have z4 := kcell hbx hbl HFC.out.2.2.2.2.1
          have z5 := kcell hbx hbl HFC.out.2.2.2.2.2.1
          have z6 := kcell hbx hbl HFC.out.2.2.2.2.2.2.1
          have z7 := kcell hbx hbl HFC.out.2.2.2.2.2.2.2.1
          have z8 := kcell hbx hbl HFC.out.2.2.2.2.2.2.2.2
          have k0 : wx.cell? ⟨w.heap.size, 0, none⟩ = some (.int .i64 lv) := by rw [hwx]; exact r0
          have k1 : wx.cell? ⟨w.heap.size, 1, none⟩ = some (.int .u64 nu) := by rw [hwx]; exact r1
          have k2 : wx.cell? ⟨w.heap.size, 2, none⟩ = some (.int .i64 sz) := by rw [hwx]; exact r2
          have k3 : wx.cell? ⟨w.heap.size, 3, none⟩ = some (.string su) := by rw [hwx]; exact r3
          have k4 : wx.cell? ⟨w.heap.size, 4, none⟩ = some (.int .u64 ss) := by rw [hwx]; exact r4
          have k5 : wx.cell? ⟨w.heap.size, 5, none⟩ = some (.int .i64 sk) := by rw [hwx]; exact r5
          have k6 : wx.cell? ⟨w.heap.size, 6, none⟩ = some (.string lu) := by rw [hwx]; exact r6
          have k7 : wx.cell? ⟨w.heap.size, 7, none⟩ = some (.int .u64 ls) := by rw [hwx]; exact r7
          have k8 : wx.cell? ⟨w.heap.size, 8, none⟩ = some (.int .i64 lk) := by rw [hwx]; exact r8
          have hlx : w.heap.size < wx.heap.size := Nat.lt_of_lt_of_le hlt0 hbx.size
          have hblx : b < wx.heap.size := Nat.lt_of_lt_of_le hbl hbx.size
          clear hwx q0 q1 q2 q3 q4 q5 q6 q7 q8 r0 r1 r2 r3 r4 r5 r6 r7 r8
          go_wp2_with ((at_builtin; refine wpList_append_at _ (o := ⟨some 47, _, _, _, _, _⟩) rfl (.tmp 41) (.tmp 46) 23 rfl encF 9 encF_len encF_one W0.heap.size 50 _ 88 Try.underlying23 Try.infoFile rfl (by decide) _ _ rfl (HOWNX.out.alloc _) _ _ _ [⟨plv, pnu, psz, psu, pss, psk, plu, pls, plk⟩] rfl rfl (at_one _ encF 9 _ encF_len ⟨plv, pnu, psz, psu, pss, psk, plu, pls, plk⟩ _ rfl) (by simp only [List.length_cons, List.length_nil]; omega) (by simp only [List.length_cons, List.length_nil, maxLen]; omega) (Nat.le_trans hbx.size (by simp)) ?_; intro v3 w3 hown3 hgrow3; have hB3 := bgr (bal hbx _) (HOWNX.out.alloc _) hgrow3))
          go_roundw
          case rel => exact ⟨n + 1, by omega, by go_num, by simp; omega, by rw [insT_behind hnp HX.out]; exact hown3, hB3⟩
          case measure => simp [intOf]; omega
    · obtain rfl : n = xs.length := by omega
      rw [insT_end hple] at hown
      by_cases hpx : p < xs.length
      · rw [if_pos hpx] at hown
        have hdd := hd0.out.trans (show Value.bool (decide (p < xs.length)) = .bool true by simp; omega)
        subst hdd
        go_wp2
        go_ret
        obtain ⟨ao', c', hv', hat', hbb⟩ := at_of_own' encF_len hown rfl
        rw [← HG.out, HP.out]
        exact ⟨ao', c', by rw [hv']; rfl, hat', fun b hb => Nat.le_trans (Nat.le_of_lt hlt0) (hbb b hb), btr hb0 hb⟩
      · rw [if_neg hpx] at hown
        obtain rfl : p = xs.length := by omega
        have hdd := hd0.out.trans (show Value.bool (decide (xs.length < xs.length)) = .bool false by simp)
        subst hdd
        have HOWN := Lib.hid hown
        clear hown
        go_wp2_with (at_builtin; refine wpList_append_at _ (o := ⟨some 53, _, _, _, _, _⟩) rfl (.tmp 50) (.tmp 52) 23 rfl encF 9 encF_len encF_one W0.heap.size 50 _ 88 Try.underlying23 Try.infoFile rfl (by decide) _ _ rfl (HOWN.out.alloc _) _ _ _ [⟨lv, nu, sz, su, ss, sk, lu, ls, lk⟩] rfl rfl (at_one _ encF 9 _ encF_len ⟨lv, nu, sz, su, ss, sk, lu, ls, lk⟩ _ rfl) (by simp only [List.length_cons, List.length_nil]; omega) (by simp only [List.length_cons, List.length_nil, maxLen]; omega) (Nat.le_trans hb.size (by simp)) ?_; intro v2 w2 hown2 hgrow2; have hB2 := bgr (bal hb _) (HOWN.out.alloc _) hgrow2)
        go_ret
        obtain ⟨ao', c', hv', hat', hbb⟩ := at_of_own' encF_len hown2 rfl
        rw [← HG.out] at hv' hat'
        rw [← HG.out, HP.out, insS_end]
        exact ⟨ao', c', by rw [hv']; rfl, hat', fun b hb => Nat.le_trans (Nat.le_of_lt hlt0) (hbb b hb), btr hb0 hB2⟩

end Go.Proofs.Ytjeanhaadbkncaa
