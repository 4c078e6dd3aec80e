/- The walk of version.Apply. -/
import Derived.Test.YtjeanhaadbkncaaApplyS
import Derived.Test.YtjeanhaadbkncaaCheck
namespace Go.Proofs.Ytjeanhaadbkncaa
open Go.RowKit

theorem IsV.none (w : World) : IsV w noneV (.agg #[.slice none 0 0, .slice none 0 0, .slice none 0 0, .slice none 0 0]) :=
  IsV.mk4 (L := noneV) (At.nil _ _ _) (At.nil _ _ _) (At.nil _ _ _) (At.nil _ _ _)
theorem SetAt.of {w : World} {sb : Nat} {L : Nat → List Fl} {vs : Nat → Value} (hv : Var w sb #[vs 0, vs 1, vs 2, vs 3] 64)
    (h : ∀ k, k < 4 → ∃ a d, vs k = .slice a (L k).length d ∧ (∀ b, a = some b → sb < b.block) ∧ At w encF 9 a d (L k)) : ∃ ao c, SetAt w sb L ao c := by
  obtain ⟨a0, d0, h0, b0, t0⟩ := h 0 (by omega)
  obtain ⟨a1, d1, h1, b1, t1⟩ := h 1 (by omega)
  obtain ⟨a2, d2, h2, b2, t2⟩ := h 2 (by omega)
  obtain ⟨a3, d3, h3, b3, t3⟩ := h 3 (by omega)
  refine ⟨fun k => match k with | 0 => a0 | 1 => a1 | 2 => a2 | _ => a3, fun k => match k with | 0 => d0 | 1 => d1 | 2 => d2 | _ => d3, ?_, fun k hk => ?_, fun k hk b hb => ?_⟩
  · rw [h0, h1, h2, h3] at hv; exact hv
  · rcases (show k = 0 ∨ k = 1 ∨ k = 2 ∨ k = 3 by omega) with rfl | rfl | rfl | rfl <;> assumption
  · rcases (show k = 0 ∨ k = 1 ∨ k = 2 ∨ k = 3 by omega) with rfl | rfl | rfl | rfl
    · exact Nat.ne_of_gt (b0 b hb)
    · exact Nat.ne_of_gt (b1 b hb)
    · exact Nat.ne_of_gt (b2 b hb)
    · exact Nat.ne_of_gt (b3 b hb)
theorem SetAt.isV {w : World} {sb : Nat} {L : Nat → List Fl} {ao : Nat → Option Addr} {c : Nat → Nat} (h : SetAt w sb L ao c) :
    IsV w L (.agg #[.slice (ao 0) (L 0).length (c 0), .slice (ao 1) (L 1).length (c 1), .slice (ao 2) (L 2).length (c 2), .slice (ao 3) (L 3).length (c 3)]) := ⟨ao, c, rfl, h.lists⟩
/-- A list of files does not lie where four empty slices lie. -/
theorem At.apart {w : World} {r : Nat} {T : TypeId} {ao : Option Addr} {c : Nat} {xs : List Fl} (h : At w encF 9 ao c xs) (hv : Var w r #[.slice none 0 0, .slice none 0 0, .slice none 0 0, .slice none 0 0] T) : ∀ (i : Nat) (x : Fl), xs[i]? = some x → ∀ b, ao = some b → b.block ≠ r := by
  intro i x hx b hb e
  obtain ⟨b', off, hb', hlt, hc⟩ := h.cells i x hx
  have h0 := hc 0 _ rfl
  rw [hb] at hb'
  cases hb'
  simp only at e
  subst e
  rw [hv.cell] at h0
  have hm := (Array.getElem?_eq_some_iff.1 h0).1
  have : (#[.slice none 0 0, .slice none 0 0, .slice none 0 0, .slice none 0 0] : Array Value)[off + i * 9 + 0]? = some (.slice none 0 0) := by
    simp at hm
    rcases (show off + i * 9 = 0 ∨ off + i * 9 = 1 ∨ off + i * 9 = 2 ∨ off + i * 9 = 3 by omega) with q | q | q | q <;> rw [q] <;> rfl
  rw [this] at h0
  cases h0
theorem At.setFar {w : World} {ao : Option Addr} {c : Nat} {xs : List Fl} (h : At w encF 9 ao c xs) {r j : Nat} (v : Value) (hne : ∀ (i : Nat) (x : Fl), xs[i]? = some x → ∀ b, ao = some b → b.block ≠ r) : At (w.setCell ⟨r, j, none⟩ v) encF 9 ao c xs :=
  ⟨h.len, h.cap, h.bare, fun i x hx => by
    obtain ⟨b, off, hb, hlt, hc⟩ := h.cells i x hx
    exact ⟨b, off, hb, by rw [Var.setCell_lt]; exact hlt, fun m u hu => (World.cell?_of_block (w := w) (Below.heap_setCell w ⟨r, j, none⟩ v b (hne i x hx _ hb))).trans (hc m u hu)⟩⟩
theorem checkS_cases (L : Nat → List Fl) : checkS L = 0 ∨ checkS L = 140 := by
  unfold checkS
  split
  · exact .inl rfl
  · exact .inr rfl

set_option maxRecDepth 100000 in
set_option maxHeartbeats 8000000 in
theorem apply_any (ao : Nat → Option Addr) (L : Nat → List Fl) (c : Nat → Nat) (log nx la : Int) (aod : Option Addr) (cd : Nat) (ds : List Gn) (aof : Option Addr) (cf : Nat) (fs : List Fl) (w : World)
    (hv : ∀ i, i < 4 → At w encF 9 (ao i) (c i) (L i)) (hd : At w encG 2 aod cd ds) (hf : At w encF 9 aof cf fs) (hsz : ∀ i, i < 4 → (L i).length ≤ 900000) (hwf : ∀ i, i < 4 → ∀ f ∈ L i, WfF f) :
    Calls Try.prog 12 #[.agg #[.slice (ao 0) (L 0).length (c 0), .slice (ao 1) (L 1).length (c 1), .slice (ao 2) (L 2).length (c 2), .slice (ao 3) (L 3).length (c 3)], .agg #[.int .u64 log, .int .u64 nx, .int .u64 la, .slice aod ds.length cd, .slice aof fs.length cf]] w fun e w' =>
      ∃ v, e = .returned (.tuple #[v, .int .i64 (applyS L log nx la ds fs).1]) ∧ IsV w' (applyS L log nx la ds fs).2 v ∧ Below w.heap.size w w' := by
  obtain ⟨W0, hW0⟩ : ∃ W0, W0 = ((w.alloc (.cells #[.slice (ao 0) (L 0).length (c 0), .slice (ao 1) (L 1).length (c 1), .slice (ao 2) (L 2).length (c 2), .slice (ao 3) (L 3).length (c 3)] 26)).alloc (.cells #[.int .u64 log, .int .u64 nx, .int .u64 la, .slice aod ds.length cd, .slice aof fs.length cf] 36)).alloc (.cells #[.slice none 0 0, .slice none 0 0, .slice none 0 0, .slice none 0 0] 26) := ⟨_, rfl⟩
  have hs0 : W0.heap.size = w.heap.size + 1 + 1 + 1 := by rw [hW0]; simp
  have hb0 : Below w.heap.size w W0 := by rw [hW0]; exact bal (bal (bal (Below.refl _ _) _) _) _
  have hvv : Var W0 w.heap.size #[.slice (ao 0) (L 0).length (c 0), .slice (ao 1) (L 1).length (c 1), .slice (ao 2) (L 2).length (c 2), .slice (ao 3) (L 3).length (c 3)] 26 := by rw [hW0]; exact ((Var.new _ _ _).alloc _).alloc _
  have hvx : Var W0 (w.heap.size + 1) #[.int .u64 log, .int .u64 nx, .int .u64 la, .slice aod ds.length cd, .slice aof fs.length cf] 36 := by rw [hW0]; exact (Var.new' _ _ _ (by simp)).alloc _
  have hvr : Var W0 (w.heap.size + 1 + 1) #[.slice none 0 0, .slice none 0 0, .slice none 0 0, .slice none 0 0] 26 := by rw [hW0]; exact Var.new' _ _ _ (by simp)
  have HVV := Lib.hid hvv
  have HVX := Lib.hid hvx
  have HVR := Lib.hid hvr
  have HAT := Lib.hid (fun i hi => (hv i hi).below hb0)
  have HD := Lib.hid (hd.below hb0)
  have HF := Lib.hid (hf.below hb0)
  have HW := Lib.hid hW0
  have HS0 := Lib.hid hs0
  have HWF := Lib.hid hwf
  have hsz1 : ∀ i, i < 4 → (L i).length ≤ 1000000 := fun i hi => by have := hsz i hi; omega
  have HSZ := Lib.hid hsz
  have HSZ1 := Lib.hid hsz1
  have hcc := checkS_cases L
  have v0 := hvv.cell 0
  have v1 := hvv.cell 1
  have v2 := hvv.cell 2
  have v3 := hvv.cell 3
  have r0 := hvr.cell 0
  have r1 := hvr.cell 1
  have r2 := hvr.cell 2
  have r3 := hvr.cell 3
  have q0 := hvr.free 0
  have q1 := hvr.free 1
  have q2 := hvr.free 2
  have q3 := hvr.free 3
  have hlv : w.heap.size < W0.heap.size := by omega
  have hlx : w.heap.size + 1 < W0.heap.size := by omega
  have hlr : w.heap.size + 1 + 1 < W0.heap.size := by omega
  have hle : w.heap.size ≤ w.heap.size + 1 + 1 := by omega
  clear hv hd hf hW0 hvv hvx hvr hwf hsz hsz1 hs0
  rcases hcc with hck | hck
  · have hck1 : (checkS L != 0) = false := by simp [hck]
    have HCK := Lib.hid hck
    clear hck
    have e0 := HVX.out.cell 0
    have e1 := HVX.out.cell 1
    have e2 := HVX.out.cell 2
    have e3 := HVX.out.cell 3
    have e4 := HVX.out.cell 4
    by_cases hed : editS log nx la ds fs = 0
    · have hed1 : (editS log nx la ds fs != 0) = false := by simp [hed]
      have HA : Hid (applyS L log nx la ds fs = match delsS L ds with | none => (141, noneV) | some L1 => addsS L1 fs) := by show _ = _; unfold applyS; rw [if_neg (by rw [HCK.out]; decide), if_neg (by rw [hed]; decide)]; rfl
      obtain ⟨hdl, hfl, hdr, hfr⟩ := editS_zero hed
      have HDR := Lib.hid hdr
      have HFR := Lib.hid hfr
      clear hed hdr hfr
      have hidx : ∀ (n : Nat), n < 4 → ∀ w, (Instr.index 24 (.agg #[.slice (ao 0) (L 0).length (c 0), .slice (ao 1) (L 1).length (c 1), .slice (ao 2) (L 2).length (c 2), .slice (ao 3) (L 3).length (c 3)]) (.int .i64 (n : Int))).run Try.prog w = .ok (.slice (ao n) (L n).length (c n)) w := by
        intro n hn w
        rcases (show n = 0 ∨ n = 1 ∨ n = 2 ∨ n = 3 by omega) with rfl | rfl | rfl | rfl <;> kernel_rfl
      have HIDX := Lib.hid hidx
      clear hidx
      go_enter Try.func12, Try.ntmps12
      go_wp2_with (first | (go_at_call 15; rw [← HW.out]; refine (check_any ao L c W0 HAT.out HSZ1.out HWF.out).mono ?_; rintro e w1 ⟨rfl, hb1⟩; have xx0 := kcell hb1 hlx e0; have xx1 := kcell hb1 hlx e1; have xx2 := kcell hb1 hlx e2; have xx3 := kcell hb1 hlx e3; have xx4 := kcell hb1 hlx e4) | (go_at_call 31; refine (edit_any log nx la aod cd ds aof cf fs _ (HD.out.below hb1) (HF.out.below hb1)).mono ?_; rintro e w2 ⟨rfl, hb2'⟩; have hb2 := btr hb1 hb2'; have z0 := kcell hb2 hlv v0; have z1 := kcell hb2 hlv v1; have z2 := kcell hb2 hlv v2; have z3 := kcell hb2 hlv v3; have hl2 : w.heap.size < w2.heap.size := Nat.lt_of_lt_of_le hlv hb2.size; have hl2x : w.heap.size + 1 < w2.heap.size := Nat.lt_of_lt_of_le hlx hb2.size))
      have hsb : W0.heap.size ≤ w2.heap.size := hb2.size
      go_loopw [28] (fun i wr => ∃ n : Nat, n ≤ 4 ∧ i = .int .i64 n ∧ (∃ vs : Nat → Value, Var wr w2.heap.size #[vs 0, vs 1, vs 2, vs 3] 64 ∧ Hid (∀ k, k < n → ∃ a d, vs k = .slice a (L k).length d ∧ (∀ b, a = some b → w2.heap.size < b.block) ∧ At wr encF 9 a d (L k))) ∧ Below W0.heap.size W0 wr) (fun i _ => 4 - (intOf i).toNat)
      case atStart => exact ⟨0, Nat.zero_le _, rfl, ⟨fun _ => .slice none 0 0, Var.new _ _ _, Lib.hid (fun j hj => by omega)⟩, bal hb2 _⟩
      case round =>
        obtain ⟨n, hn, rfl, ⟨vs, hvs, hk⟩, hb⟩ := hrel
        by_cases hlt : n < 4
        · have hix := HIDX.out n hlt
          have hd4 : decide ((n : Int) < 4) = true := by simp; omega
          have hcv : wr.cell? ⟨w2.heap.size, n, none⟩ = some (vs n) := (hvs.cell n).trans (four_get vs n hlt)
          have hfv := hvs.free n
          have hlv2 := hvs.lt
          have HVS := Lib.hid hvs
          clear hvs
          go_wp2_with (go_at_call 32; refine (clone_own (ao n) (c n) (L n) _ ((HAT.out n hlt).below hb) (HSZ1.out n hlt)).mono ?_; rintro e w3 ⟨vC, rfl, hown3, hb3⟩; obtain ⟨a3, d3, rfl, hat3, hbb3⟩ := at_of_own' encF_len hown3 rfl; have hc3 := kcell hb3 hlv2 hcv; have hf3 := kfro hb3 hlv2 hfv)
          go_roundw
          case rel =>
            have hb4 : Below W0.heap.size W0 w3 := btr hb hb3
            refine ⟨n + 1, by omega, by go_num, ⟨upd vs n (.slice a3 (L n).length d3), ?_, Lib.hid (fun k hk' => ?_)⟩, bset hb4 hsb _⟩
            · rw [← upd_cells vs n _ hlt]
              exact (HVS.out.below hb3).set n _
            · by_cases hkn : k = n
              · subst hkn
                exact ⟨a3, d3, by simp [upd], fun b hb => Nat.lt_of_lt_of_le hlv2 (hbb3 b hb), hat3.setCell _ fun b hb e => by have := hbb3 b hb; simp at e; omega⟩
              · obtain ⟨a, d, h1, h2, h3⟩ := hk.out k (by omega)
                exact ⟨a, d, by simp [upd, hkn, h1], h2, (h3.below hb3).setCell _ fun b hb e => by have := h2 b hb; simp at e; omega⟩
          case measure => simp [intOf]; omega
        · obtain rfl : n = 4 := by omega
          obtain ⟨aoS, cS, hs0⟩ := SetAt.of hvs hk.out
          have HSS := Lib.hid hs0
          have xx3 := kcell hb hlx e3
          have hsr : w2.heap.size < wr.heap.size := hs0.var.lt
          clear hvs hk hs0 xx0 xx1 xx2 xx4 z0 z1 z2 z3
          go_wp2_with fail
          go_loopw [40] (fun i wr => ∃ (n : Nat) (Ln : Nat → List Fl) (aon : Nat → Option Addr) (cn : Nat → Nat), n ≤ ds.length ∧ i = .int .i64 n ∧ Hid (SetAt wr w2.heap.size Ln aon cn) ∧ Hid (delsS L ds = delsS Ln (ds.drop n)) ∧ Hid (∀ i, i < 4 → (Ln i).length ≤ 900000) ∧ Below W0.heap.size W0 wr) (fun i _ => ds.length - (intOf i).toNat)
          case atStart => exact ⟨0, L, aoS, cS, Nat.zero_le _, rfl, HSS, Lib.hid (by rw [List.drop_zero]), HSZ, hb⟩
          case round =>
            clear hb HSS xx3 hsr
            obtain ⟨n, Ln, aon, cn, hn, rfl, hset, hdel, hszn, hb⟩ := hrel
            have hsr : w2.heap.size < wr.heap.size := hset.out.var.lt
            by_cases hlt : n < ds.length
            · obtain ⟨g, hg⟩ : ∃ g, ds[n]? = some g := ⟨_, List.getElem?_eq_getElem hlt⟩
              obtain ⟨b, off, hbl, hix, hcs⟩ := idx_at (P := Try.prog) (HD.out.below hb) 34 52 Try.underlying34 Try.sizeOf52 hg
              obtain ⟨g0, g1⟩ := gone_cells hcs
              have hrange := HDR.out g (List.mem_of_getElem? hg)
              obtain ⟨k, hk⟩ : ∃ k : Nat, g.lv = k := ⟨g.lv.toNat, by omega⟩
              have hk4 : k < 4 := by omega
              have HTN : Hid (g.lv.toNat = k) := Lib.hid (by omega)
              have HG := Lib.hid hg
              clear hg hcs hrange
              obtain ⟨glv, gnu⟩ := g
              dsimp only at hk g0 g1 HTN
              subst hk
              have hcon := drop_any w2.heap.size k Ln aon cn gnu (wr.alloc (.cells #[.int .i64 (k : Int), .int .u64 gnu] 52)) hk4 (hset.out.below (bal (Below.refl _ wr) _)) (fun i hi => by have := hszn.out i hi; omega)
              have HCON := Lib.hid hcon
              clear hcon
              cases hdr : dropI (Ln k) gnu with
              | none =>
                have HDRN := Lib.hid hdr
                clear hdr
                have HN : Hid (applyS L log nx la ds fs = (141, noneV)) := by show _ = _; rw [HA.out, delsS_none hdel.out HG.out (by rw [HTN.out]; exact HDRN.out)]
                go_wp2_with (go_at_call 33; refine HCON.out.mono ?_; rintro e w3 (⟨-, rfl, hb3'⟩ | ⟨i, hi, -⟩); rotate_left; (exact absurd (HDRN.out.symm.trans hi) (by simp)); have hb3 := btr (bal hb _) hb3'; have x0 := kcell hb3 hlr r0; have x1 := kcell hb3 hlr r1; have x2 := kcell hb3 hlr r2; have x3 := kcell hb3 hlr r3; have y0 := kfro hb3 hlr q0; have y1 := kfro hb3 hlr q1; have y2 := kfro hb3 hlr q2; have y3 := kfro hb3 hlr q3)
                have hbw := btr hb0 hb3
                rw [HN.out]
                refine bodyPost_ret (v := .tuple #[.agg #[.slice none 0 0, .slice none 0 0, .slice none 0 0, .slice none 0 0], .int .i64 (141)]) (by simp [results, Try.results12, go_sem, x0, x1, x2, x3]) rfl ⟨_, rfl, IsV.none _, ?_⟩
                exact bset (bset (bset (bset hbw hle _) hle _) hle _) hle _
              | some i =>
                have HDRN := Lib.hid hdr
                clear hdr
                go_wp2_with (go_at_call 33; refine HCON.out.mono ?_; rintro e w3 (⟨hno, -, -⟩ | ⟨i', hi, rfl, ao', c', hs3, hg3⟩); (exact absurd (HDRN.out.symm.trans hno) (by simp)); have hb3 : Below W0.heap.size W0 w3 := (bal hb _).grown hg3 (Nat.le_trans hb.size (by simp)) (fun k hk => by cases hk; exact hsb); obtain rfl : i = i' := Option.some.inj (HDRN.out.symm.trans hi); have HS3 := Lib.hid hs3; clear hs3 hg3 hi)
                refine ⟨?_, ?measure⟩
                iterate 12 (apply Exists.intro)
                refine ⟨?rel, ?frame⟩
                case frame => rfl
                case rel => exact ⟨n + 1, _, ao', c', by omega, by go_num, HS3, Lib.hid (by have := delsS_some hdel.out HG.out (by rw [HTN.out]; exact HDRN.out); rwa [HTN.out] at this), Lib.hid (updG_len hszn.out (Nat.le_trans (dropI_len HDRN.out) (hszn.out k hk4)) (Nat.le_refl _)), hb3⟩
                case measure => simp [intOf]; omega
            · obtain rfl : n = ds.length := by omega
              have HA2 : Hid (applyS L log nx la ds fs = addsS Ln fs) := by show _ = _; rw [HA.out, delsS_end hdel.out]
              have xx4 := kcell hb hlx e4
              clear hdel
              go_wp2_with fail
              go_loopw [53] (fun i wr => ∃ (m : Nat) (Lm : Nat → List Fl) (aom : Nat → Option Addr) (cm : Nat → Nat), m ≤ fs.length ∧ i = .int .i64 m ∧ Hid (SetAt wr w2.heap.size Lm aom cm) ∧ Hid (addsS Ln fs = addsS Lm (fs.drop m)) ∧ Hid (∀ i, i < 4 → (Lm i).length ≤ 900000 + m) ∧ Below W0.heap.size W0 wr) (fun i _ => fs.length - (intOf i).toNat)
              case atStart => exact ⟨0, Ln, aon, cn, Nat.zero_le _, rfl, hset, Lib.hid (by rw [List.drop_zero]), hszn, hb⟩
              case round =>
                clear hb hset xx4 hsr hszn
                obtain ⟨m, Lm, aom, cm, hm, rfl, hset, hadd, hszm, hb⟩ := hrel
                have hsr : w2.heap.size < wr.heap.size := hset.out.var.lt
                by_cases hltm : m < fs.length
                · obtain ⟨f, hf⟩ : ∃ f, fs[m]? = some f := ⟨_, List.getElem?_eq_getElem hltm⟩
                  obtain ⟨b, off, hbl, hix, hcs⟩ := idx_at (P := Try.prog) (HF.out.below hb) 23 50 Try.underlying23 Try.sizeOf50 hf
                  have hrange := HFR.out f (List.mem_of_getElem? hf)
                  obtain ⟨k, hk⟩ : ∃ k : Nat, f.lv = k := ⟨f.lv.toNat, by omega⟩
                  have hk4 : k < 4 := by omega
                  have HTN : Hid (f.lv.toNat = k) := Lib.hid (by omega)
                  have HG := Lib.hid hf
                  clear hf hrange
                  obtain ⟨lv, nu, sz, su, ss, sk, lu, ls, lk⟩ := f
                  obtain ⟨p0, p1, p2, p3, p4, p5, p6, p7, p8⟩ := file_cells hcs
                  dsimp only at hk p0 p1 p2 p3 p4 p5 p6 p7 p8 HTN
                  subst hk
                  clear hcs
                  have HVB := Lib.hid (Var.new wr #[.int .i64 (k : Int), .int .u64 nu, .int .i64 sz, .string su, .int .u64 ss, .int .i64 sk, .string lu, .int .u64 ls, .int .i64 lk] 50)
                  have HS1 := Lib.hid (hset.out.below (bal (Below.refl _ wr) (.cells #[.int .i64 (k : Int), .int .u64 nu, .int .i64 sz, .string su, .int .u64 ss, .int .i64 sk, .string lu, .int .u64 ls, .int .i64 lk] 50)))
                  have hszm1 : Hid (∀ i, i < 4 → (Lm i).length ≤ 1000000) := Lib.hid fun i hi => by have := hszm.out i hi; omega
                  cases hth : thereS Lm nu with
                  | true =>
                    have HTH := Lib.hid hth
                    have HN : Hid (applyS L log nx la ds fs = (142, noneV)) := by show _ = _; rw [HA2.out, addsS_there hadd.out HG.out hth]
                    go_wp2_with (go_at_call 35; refine (there_any w2.heap.size Lm aom cm nu _ HS1.out hszm1.out).mono ?_; rintro e w3 ⟨rfl, hb3'⟩; have hb3 := btr (bal hb _) hb3'; have hv3 := HVB.out.below hb3'; have hset3 := HS1.out.below hb3'; have b0 := hv3.cell 0; have b1 := hv3.cell 1; have b2 := hv3.cell 2; have b3 := hv3.cell 3; have b4 := hv3.cell 4; have b5 := hv3.cell 5; have b6 := hv3.cell 6; have b7 := hv3.cell 7; have b8 := hv3.cell 8; have s0 := hset3.var.cell 0; have s1 := hset3.var.cell 1; have s2 := hset3.var.cell 2; have s3 := hset3.var.cell 3; have hz3 : wr.heap.size < w3.heap.size := hv3.lt; have hz3s : w2.heap.size < w3.heap.size := hset3.var.lt; have HS3 := Lib.hid hset3; have HV3 := Lib.hid hv3; clear hset3 hv3; have x0 := kcell hb3 hlr r0; have x1 := kcell hb3 hlr r1; have x2 := kcell hb3 hlr r2; have x3 := kcell hb3 hlr r3; have y0 := kfro hb3 hlr q0; have y1 := kfro hb3 hlr q1; have y2 := kfro hb3 hlr q2; have y3 := kfro hb3 hlr q3)
                    have hbw := btr hb0 hb3
                    rw [HN.out]
                    refine bodyPost_ret (v := .tuple #[.agg #[.slice none 0 0, .slice none 0 0, .slice none 0 0, .slice none 0 0], .int .i64 (142)]) (by simp [results, Try.results12, go_sem, x0, x1, x2, x3]) rfl ⟨_, rfl, IsV.none _, ?_⟩
                    exact bset (bset (bset (bset hbw hle _) hle _) hle _) hle _
                  | false =>
                    have HTH := Lib.hid hth
                    by_cases hz : 0 < k
                    · have hz1 : decide ((0 : Int) < (k : Int)) = true := by simp; omega
                      have hz2 : (0 : Int) < (k : Int) := by omega
                      have HOL : Hid (overL Lm (k : Int) su lu = overS (Lm k) su lu) := by show _ = _; unfold overL; rw [if_neg (by omega)]; rfl
                      cases hem : (overL Lm (k : Int) su lu).isEmpty
                      · have hne1 : decide ((0 : Int) < ((overL Lm (k : Int) su lu).length : Int)) = true := by
                          cases hq : overL Lm (k : Int) su lu with
                          | nil => rw [hq] at hem; cases hem
                          | cons a l => simp
                        have hne2 : 0 < (overL Lm (k : Int) su lu).length := by simpa using hne1
                        have HN : Hid (applyS L log nx la ds fs = (143, noneV)) := by show _ = _; rw [HA2.out, addsS_over hadd.out HG.out hth (by rw [HTN.out]; show (decide ((0 : Int) < (k : Int)) && !(overS (Lm k) su lu).isEmpty) = true; rw [← HOL.out, hem, hz1]; rfl)]
                        have HEM := Lib.hid hem
                        clear hem
                        go_wp2_with (first | (go_at_call 35; refine (there_any w2.heap.size Lm aom cm nu _ HS1.out hszm1.out).mono ?_; rintro e w3 ⟨rfl, hb3'⟩; have hb3 := btr (bal hb _) hb3'; have hv3 := HVB.out.below hb3'; have hset3 := HS1.out.below hb3'; have b0 := hv3.cell 0; have b1 := hv3.cell 1; have b2 := hv3.cell 2; have b3 := hv3.cell 3; have b4 := hv3.cell 4; have b5 := hv3.cell 5; have b6 := hv3.cell 6; have b7 := hv3.cell 7; have b8 := hv3.cell 8; have s0 := hset3.var.cell 0; have s1 := hset3.var.cell 1; have s2 := hset3.var.cell 2; have s3 := hset3.var.cell 3; have hz3 : wr.heap.size < w3.heap.size := hv3.lt; have hz3s : w2.heap.size < w3.heap.size := hset3.var.lt; have HS3 := Lib.hid hset3; have HV3 := Lib.hid hv3; clear hset3 hv3; have x0 := kcell hb3 hlr r0; have x1 := kcell hb3 hlr r1; have x2 := kcell hb3 hlr r2; have x3 := kcell hb3 hlr r3; have y0 := kfro hb3 hlr q0; have y1 := kfro hb3 hlr q1; have y2 := kfro hb3 hlr q2; have y3 := kfro hb3 hlr q3) | (go_at_call 21; refine (over_any aom Lm cm (k : Int) su lu _ HS3.out.lists hszm1.out).mono ?_; rintro e w4 ⟨ao4, c4, rfl, hat4, hb4'⟩; have hb4 := btr hb3 hb4'; have HS4 := Lib.hid (HS3.out.below hb4'); have hv4 := HV3.out.below hb4'; have d0 := hv4.cell 0; have d1 := hv4.cell 1; have d2 := hv4.cell 2; have d3 := hv4.cell 3; have d4 := hv4.cell 4; have d5 := hv4.cell 5; have d6 := hv4.cell 6; have d7 := hv4.cell 7; have d8 := hv4.cell 8; have hz4 : wr.heap.size < w4.heap.size := hv4.lt; clear hv4; have x0 := kcell hb4 hlr r0; have x1 := kcell hb4 hlr r1; have x2 := kcell hb4 hlr r2; have x3 := kcell hb4 hlr r3; have y0 := kfro hb4 hlr q0; have y1 := kfro hb4 hlr q1; have y2 := kfro hb4 hlr q2; have y3 := kfro hb4 hlr q3))
                        have hbw := btr hb0 hb4
                        rw [HN.out]
                        refine bodyPost_ret (v := .tuple #[.agg #[.slice none 0 0, .slice none 0 0, .slice none 0 0, .slice none 0 0], .int .i64 (143)]) (by simp [results, Try.results12, go_sem, x0, x1, x2, x3]) rfl ⟨_, rfl, IsV.none _, ?_⟩
                        exact bset (bset (bset (bset hbw hle _) hle _) hle _) hle _
                      · have hne3 : overL Lm (k : Int) su lu = [] := by simpa using hem
                        have hne1 : decide ((0 : Int) < ((overL Lm (k : Int) su lu).length : Int)) = false := by rw [hne3]; rfl
                        have hne2 : ¬ (0 < (overL Lm (k : Int) su lu).length) := by rw [hne3]; simp
                        have HOV : Hid ((decide ((0 : Int) < (k : Int)) && !(overS (Lm k) su lu).isEmpty) = false) := by show _ = _; rw [← HOL.out, hem]; simp
                        clear hem hne3
                        go_wp2_with (first | (go_at_call 35; refine (there_any w2.heap.size Lm aom cm nu _ HS1.out hszm1.out).mono ?_; rintro e w3 ⟨rfl, hb3'⟩; have hb3 := btr (bal hb _) hb3'; have hv3 := HVB.out.below hb3'; have hset3 := HS1.out.below hb3'; have b0 := hv3.cell 0; have b1 := hv3.cell 1; have b2 := hv3.cell 2; have b3 := hv3.cell 3; have b4 := hv3.cell 4; have b5 := hv3.cell 5; have b6 := hv3.cell 6; have b7 := hv3.cell 7; have b8 := hv3.cell 8; have s0 := hset3.var.cell 0; have s1 := hset3.var.cell 1; have s2 := hset3.var.cell 2; have s3 := hset3.var.cell 3; have hz3 : wr.heap.size < w3.heap.size := hv3.lt; have hz3s : w2.heap.size < w3.heap.size := hset3.var.lt; have HS3 := Lib.hid hset3; have HV3 := Lib.hid hv3; clear hset3 hv3; have x0 := kcell hb3 hlr r0; have x1 := kcell hb3 hlr r1; have x2 := kcell hb3 hlr r2; have x3 := kcell hb3 hlr r3; have y0 := kfro hb3 hlr q0; have y1 := kfro hb3 hlr q1; have y2 := kfro hb3 hlr q2; have y3 := kfro hb3 hlr q3) | (go_at_call 21; refine (over_any aom Lm cm (k : Int) su lu _ HS3.out.lists hszm1.out).mono ?_; rintro e w4 ⟨ao4, c4, rfl, hat4, hb4'⟩; have hb4 := btr hb3 hb4'; have HS4 := Lib.hid (HS3.out.below hb4'); have hv4 := HV3.out.below hb4'; have d0 := hv4.cell 0; have d1 := hv4.cell 1; have d2 := hv4.cell 2; have d3 := hv4.cell 3; have d4 := hv4.cell 4; have d5 := hv4.cell 5; have d6 := hv4.cell 6; have d7 := hv4.cell 7; have d8 := hv4.cell 8; have hz4 : wr.heap.size < w4.heap.size := hv4.lt; clear hv4; have x0 := kcell hb4 hlr r0; have x1 := kcell hb4 hlr r1; have x2 := kcell hb4 hlr r2; have x3 := kcell hb4 hlr r3; have y0 := kfro hb4 hlr q0; have y1 := kfro hb4 hlr q1; have y2 := kfro hb4 hlr q2; have y3 := kfro hb4 hlr q3) | (go_at_call 34; refine (put_any w2.heap.size k Lm aom cm ⟨(k : Int), nu, sz, su, ss, sk, lu, ls, lk⟩ _ hk4 rfl HS4.out hszm1.out).mono ?_; rintro e w5 ⟨rfl, ao5, c5, hs5, hg5⟩; have hb5 : Below W0.heap.size W0 w5 := hb4.grown hg5 hb4.size (fun k hk => by cases hk; exact hsb); have HS5 := Lib.hid hs5; clear hs5 hg5))
                        refine ⟨?_, ?measure⟩
                        repeat (apply Exists.intro)
                        refine ⟨?rel, ?frame⟩
                        case frame => rfl
                        case rel => exact ⟨m + 1, _, ao5, c5, by omega, by go_num, HS5, Lib.hid (by have := addsS_put hadd.out HG.out HTH.out (by rw [HTN.out]; exact HOV.out); rwa [HTN.out] at this), Lib.hid (fun i hi => by have := updG_len (k := k) hszm.out (show (putS (Lm k) ⟨(k : Int), nu, sz, su, ss, sk, lu, ls, lk⟩).length ≤ 900000 + (m + 1) by rw [putS_len]; have := hszm.out k hk4; omega) (by omega) i hi; exact this), hb5⟩
                        case measure => simp [intOf]; omega
                    · have hz1 : decide ((0 : Int) < (k : Int)) = false := by simp; omega
                      have hz2 : (k : Int) ≤ 0 := by omega
                      have HOV : Hid ((decide ((0 : Int) < (k : Int)) && !(overS (Lm k) su lu).isEmpty) = false) := by show _ = _; rw [hz1]; rfl
                      go_wp2_with (first | (go_at_call 35; refine (there_any w2.heap.size Lm aom cm nu _ HS1.out hszm1.out).mono ?_; rintro e w3 ⟨rfl, hb3'⟩; have hb3 := btr (bal hb _) hb3'; have hv3 := HVB.out.below hb3'; have hset3 := HS1.out.below hb3'; have b0 := hv3.cell 0; have b1 := hv3.cell 1; have b2 := hv3.cell 2; have b3 := hv3.cell 3; have b4 := hv3.cell 4; have b5 := hv3.cell 5; have b6 := hv3.cell 6; have b7 := hv3.cell 7; have b8 := hv3.cell 8; have s0 := hset3.var.cell 0; have s1 := hset3.var.cell 1; have s2 := hset3.var.cell 2; have s3 := hset3.var.cell 3; have hz3 : wr.heap.size < w3.heap.size := hv3.lt; have hz3s : w2.heap.size < w3.heap.size := hset3.var.lt; have HS3 := Lib.hid hset3; have HV3 := Lib.hid hv3; clear hset3 hv3; have x0 := kcell hb3 hlr r0; have x1 := kcell hb3 hlr r1; have x2 := kcell hb3 hlr r2; have x3 := kcell hb3 hlr r3; have y0 := kfro hb3 hlr q0; have y1 := kfro hb3 hlr q1; have y2 := kfro hb3 hlr q2; have y3 := kfro hb3 hlr q3) | (go_at_call 34; refine (put_any w2.heap.size k Lm aom cm ⟨(k : Int), nu, sz, su, ss, sk, lu, ls, lk⟩ _ hk4 rfl HS3.out hszm1.out).mono ?_; rintro e w5 ⟨rfl, ao5, c5, hs5, hg5⟩; have hb5 : Below W0.heap.size W0 w5 := hb3.grown hg5 hb3.size (fun k hk => by cases hk; exact hsb); have HS5 := Lib.hid hs5; clear hs5 hg5))
                      refine ⟨?_, ?measure⟩
                      repeat (apply Exists.intro)
                      refine ⟨?rel, ?frame⟩
                      case frame => rfl
                      case rel => exact ⟨m + 1, _, ao5, c5, by omega, by go_num, HS5, Lib.hid (by have := addsS_put hadd.out HG.out HTH.out (by rw [HTN.out]; exact HOV.out); rwa [HTN.out] at this), Lib.hid (fun i hi => by have := updG_len (k := k) hszm.out (show (putS (Lm k) ⟨(k : Int), nu, sz, su, ss, sk, lu, ls, lk⟩).length ≤ 900000 + (m + 1) by rw [putS_len]; have := hszm.out k hk4; omega) (by omega) i hi; exact this), hb5⟩
                      case measure => simp [intOf]; omega
                · obtain rfl : m = fs.length := by omega
                  have HN : Hid (applyS L log nx la ds fs = (0, Lm)) := by show _ = _; rw [HA2.out, addsS_end hadd.out]
                  have s0 := hset.out.var.cell 0
                  have s1 := hset.out.var.cell 1
                  have s2 := hset.out.var.cell 2
                  have s3 := hset.out.var.cell 3
                  have x0 := kcell hb hlr r0
                  have x1 := kcell hb hlr r1
                  have x2 := kcell hb hlr r2
                  have x3 := kcell hb hlr r3
                  have y0 := kfro hb hlr q0
                  have y1 := kfro hb hlr q1
                  have y2 := kfro hb hlr q2
                  have y3 := kfro hb hlr q3
                  have hvr : Hid (Var wr (w.heap.size + 1 + 1) #[.slice none 0 0, .slice none 0 0, .slice none 0 0, .slice none 0 0] 26) := Lib.hid ((hb.block _ hlr).trans HVR.out)
                  go_wp2
                  have hbw := btr hb0 hb
                  rw [HN.out]
                  refine bodyPost_ret (v := .tuple #[.agg #[.slice (aom 0) (Lm 0).length (cm 0), .slice (aom 1) (Lm 1).length (cm 1), .slice (aom 2) (Lm 2).length (cm 2), .slice (aom 3) (Lm 3).length (cm 3)], .int .i64 0]) (by simp [results, Try.results12, go_sem, x0, x1, x2, x3]) rfl ⟨_, rfl, ⟨aom, cm, rfl, fun i hi => ?_⟩, ?_⟩
                  · have hq := (hset.out.lists i hi).apart hvr.out
                    exact ((((hset.out.lists i hi).setFar _ hq).setFar _ hq).setFar _ hq).setFar _ hq
                  · exact bset (bset (bset (bset hbw hle _) hle _) hle _) hle _
    · have hed1 : (editS log nx la ds fs != 0) = true := by simp [hed]
      have HA : Hid (applyS L log nx la ds fs = (editS log nx la ds fs, noneV)) := by show _ = _; unfold applyS; rw [if_neg (by rw [HCK.out]; decide), if_pos hed]
      clear hed
      go_enter Try.func12, Try.ntmps12
      go_wp2_with (first | (go_at_call 15; rw [← HW.out]; refine (check_any ao L c W0 HAT.out HSZ1.out HWF.out).mono ?_; rintro e w1 ⟨rfl, hb1⟩; have xx0 := kcell hb1 hlx e0; have xx1 := kcell hb1 hlx e1; have xx2 := kcell hb1 hlx e2; have xx3 := kcell hb1 hlx e3; have xx4 := kcell hb1 hlx e4) | (go_at_call 31; refine (edit_any log nx la aod cd ds aof cf fs _ (HD.out.below hb1) (HF.out.below hb1)).mono ?_; rintro e w2 ⟨rfl, hb2'⟩; have hb2 := btr hb1 hb2'; have x0 := kcell hb2 hlr r0; have x1 := kcell hb2 hlr r1; have x2 := kcell hb2 hlr r2; have x3 := kcell hb2 hlr r3; have y0 := kfro hb2 hlr q0; have y1 := kfro hb2 hlr q1; have y2 := kfro hb2 hlr q2; have y3 := kfro hb2 hlr q3))
      have hbw := btr hb0 hb2
      rw [HA.out]
      refine bodyPost_ret (v := .tuple #[.agg #[.slice none 0 0, .slice none 0 0, .slice none 0 0, .slice none 0 0], .int .i64 (editS log nx la ds fs)]) (by simp [results, Try.results12, go_sem, x0, x1, x2, x3]) rfl ⟨_, rfl, IsV.none _, ?_⟩
      exact bset (bset (bset (bset hbw hle _) hle _) hle _) hle _
  · have hck1 : (checkS L != 0) = true := by simp [hck]
    have HA : Hid (applyS L log nx la ds fs = (140, noneV)) := by show _ = _; unfold applyS; rw [if_pos (by rw [hck]; decide)]
    clear hck
    go_enter Try.func12, Try.ntmps12
    go_wp2_with (go_at_call 15; rw [← HW.out]; refine (check_any ao L c W0 HAT.out HSZ1.out HWF.out).mono ?_; rintro e w1 ⟨rfl, hb1⟩; have x0 := kcell hb1 hlr r0; have x1 := kcell hb1 hlr r1; have x2 := kcell hb1 hlr r2; have x3 := kcell hb1 hlr r3; have y0 := kfro hb1 hlr q0; have y1 := kfro hb1 hlr q1; have y2 := kfro hb1 hlr q2; have y3 := kfro hb1 hlr q3)
    have hbw := btr hb0 hb1
    rw [HA.out]
    refine bodyPost_ret (v := .tuple #[.agg #[.slice none 0 0, .slice none 0 0, .slice none 0 0, .slice none 0 0], .int .i64 140]) (by simp [results, Try.results12, go_sem, x0, x1, x2, x3]) rfl ⟨_, rfl, IsV.none _, ?_⟩
    exact bset (bset (bset (bset hbw hle _) hle _) hle _) hle _

end Go.Proofs.Ytjeanhaadbkncaa
