/- The walk of the reference's Apply. -/
import Derived.Test.YtjeanhaadbkncaaApply
import Derived.Test.YtjeanhaadbkncaaRefCheck
import Derived.Test.YtjeanhaadbkncaaVerAt
import Derived.Test.YtjeanhaadbkncaaNod
namespace Go.Proofs.Ytjeanhaadbkncaa
open Go.RowKit

set_option maxRecDepth 100000 in
set_option maxHeartbeats 8000000 in
theorem refApply_any (ao : Nat → Option Addr) (L : Nat → List Fl) (c : Nat → Nat) (log nx la : Int) (aod : Option Addr) (cd : Nat) (ds : List Gn) (aof : Option Addr) (cf : Nat) (fs : List Fl) (w : World)
    (hv : ∀ i, i < 4 → At w encF 9 (ao i) (c i) (L i)) (hd : At w encG 2 aod cd ds) (hf : At w encF 9 aof cf fs) (hsz : ∀ i, i < 4 → (L i).length ≤ 900000) :
    Calls Try.prog 13 #[.agg #[.slice (ao 0) (L 0).length (c 0), .slice (ao 1) (L 1).length (c 1), .slice (ao 2) (L 2).length (c 2), .slice (ao 3) (L 3).length (c 3)], .agg #[.int .u64 log, .int .u64 nx, .int .u64 la, .slice aod ds.length cd, .slice aof fs.length cf]] w fun e w' =>
      ∃ v, e = .returned (.tuple #[v, .int .i64 (applyS L log nx la ds fs).1]) ∧ IsV w' (applyS L log nx la ds fs).2 v ∧ Below w.heap.size w w' := by
  obtain ⟨W0, hW0⟩ : ∃ W0, W0 = ((w.alloc (.cells #[.slice (ao 0) (L 0).length (c 0), .slice (ao 1) (L 1).length (c 1), .slice (ao 2) (L 2).length (c 2), .slice (ao 3) (L 3).length (c 3)] 26)).alloc (.cells #[.int .u64 log, .int .u64 nx, .int .u64 la, .slice aod ds.length cd, .slice aof fs.length cf] 36)).alloc (.cells #[.slice none 0 0, .slice none 0 0, .slice none 0 0, .slice none 0 0] 26) := ⟨_, rfl⟩
  have hs0 : W0.heap.size = w.heap.size + 1 + 1 + 1 := by rw [hW0]; simp
  have hb0 : Below w.heap.size w W0 := by rw [hW0]; exact bal (bal (bal (Below.refl _ _) _) _) _
  have hvv : Var W0 w.heap.size #[.slice (ao 0) (L 0).length (c 0), .slice (ao 1) (L 1).length (c 1), .slice (ao 2) (L 2).length (c 2), .slice (ao 3) (L 3).length (c 3)] 26 := by rw [hW0]; exact ((Var.new _ _ _).alloc _).alloc _
  have hvx : Var W0 (w.heap.size + 1) #[.int .u64 log, .int .u64 nx, .int .u64 la, .slice aod ds.length cd, .slice aof fs.length cf] 36 := by rw [hW0]; exact (Var.new' _ _ _ (by simp)).alloc _
  have hvr : Var W0 (w.heap.size + 1 + 1) #[.slice none 0 0, .slice none 0 0, .slice none 0 0, .slice none 0 0] 26 := by rw [hW0]; exact Var.new' _ _ _ (by simp)
  have HVV := Lib.hid hvv
  have HVX := Lib.hid hvx
  have HVR := Lib.hid hvr
  have HAT := Lib.hid (fun i hi => (hv i hi).below hb0)
  have HD := Lib.hid (hd.below hb0)
  have HF := Lib.hid (hf.below hb0)
  have HW := Lib.hid hW0
  have HS0 := Lib.hid hs0
  have hsz1 : ∀ i, i < 4 → (L i).length ≤ 1000000 := fun i hi => by have := hsz i hi; omega
  have HSZ := Lib.hid hsz
  have HSZ1 := Lib.hid hsz1
  have hcc := checkS_cases L
  have v0 := hvv.cell 0
  have v1 := hvv.cell 1
  have v2 := hvv.cell 2
  have v3 := hvv.cell 3
  have r0 := hvr.cell 0
  have r1 := hvr.cell 1
  have r2 := hvr.cell 2
  have r3 := hvr.cell 3
  have q0 := hvr.free 0
  have q1 := hvr.free 1
  have q2 := hvr.free 2
  have q3 := hvr.free 3
  have hlv : w.heap.size < W0.heap.size := by omega
  have hlx : w.heap.size + 1 < W0.heap.size := by omega
  have hlr : w.heap.size + 1 + 1 < W0.heap.size := by omega
  have hle : w.heap.size ≤ w.heap.size + 1 + 1 := by omega
  clear hv hd hf hW0 hvv hvx hvr hsz hsz1 hs0
  rcases hcc with hck | hck
  · have hck1 : (checkS L != 0) = false := by simp [hck]
    have HCK := Lib.hid hck
    clear hck
    have e0 := HVX.out.cell 0
    have e1 := HVX.out.cell 1
    have e2 := HVX.out.cell 2
    have e3 := HVX.out.cell 3
    have e4 := HVX.out.cell 4
    by_cases hed : editS log nx la ds fs = 0
    · have hed1 : (editS log nx la ds fs != 0) = false := by simp [hed]
      have HA : Hid (applyS L log nx la ds fs = match delsS L ds with | none => (141, noneV) | some L1 => addsS L1 fs) := by show _ = _; unfold applyS; rw [if_neg (by rw [HCK.out]; decide), if_neg (by rw [hed]; decide)]; rfl
      have HNOD : Hid (NodV L) := Lib.hid (okV_nod (checkS_zero HCK.out))
      obtain ⟨hdl, hfl, hdr, hfr⟩ := editS_zero hed
      have HDR := Lib.hid hdr
      have HFR := Lib.hid hfr
      clear hed hdr hfr
      go_enter Try.func13, Try.ntmps13
      go_wp2_with (first | (go_at_call 16; rw [← HW.out]; refine (refCheck_any ao L c W0 HAT.out HSZ1.out).mono ?_; rintro e w1 ⟨rfl, hb1⟩; have xx0 := kcell hb1 hlx e0; have xx1 := kcell hb1 hlx e1; have xx2 := kcell hb1 hlx e2; have xx3 := kcell hb1 hlx e3; have xx4 := kcell hb1 hlx e4) | (go_at_call 36; refine (refEdit_any log nx la aod cd ds aof cf fs _ (HD.out.below hb1) (HF.out.below hb1)).mono ?_; rintro e w2 ⟨rfl, hb2'⟩; have hb2 := btr hb1 hb2'; have z0 := kcell hb2 hlv v0; have z1 := kcell hb2 hlv v1; have z2 := kcell hb2 hlv v2; have z3 := kcell hb2 hlv v3) | (go_at_call 11; refine (own_any ao L c _ (fun i hi => (HAT.out i hi).below hb2) HSZ1.out).mono ?_; rintro e wo ⟨v, rfl, ⟨aoS, cS, rfl, hatS⟩, hbo'⟩; have hbo := btr hb2 hbo'; have xx3 := kcell hbo hlx e3; have hlo : w.heap.size + 1 < wo.heap.size := Nat.lt_of_lt_of_le hlx hbo.size))
      have hsb : W0.heap.size ≤ wo.heap.size := hbo.size
      have hset0 : VerAt (wo.alloc (.cells #[.slice (aoS 0) (L 0).length (cS 0), .slice (aoS 1) (L 1).length (cS 1), .slice (aoS 2) (L 2).length (cS 2), .slice (aoS 3) (L 3).length (cS 3)] 26)) wo.heap.size L aoS cS := VerAt.of (Var.new _ _ _) (fun i hi => (hatS i hi).below (bal (Below.refl _ _) _))
      have HSS := Lib.hid hset0
      clear hset0 hatS
      go_loopw [8] (fun i wr => ∃ (n : Nat) (Ln : Nat → List Fl) (aon : Nat → Option Addr) (cn : Nat → Nat), n ≤ ds.length ∧ i = .int .i64 n ∧ Hid (VerAt wr wo.heap.size Ln aon cn) ∧ Hid (NodV Ln) ∧ Hid (delsS L ds = delsS Ln (ds.drop n)) ∧ Hid (∀ i, i < 4 → (Ln i).length ≤ 900000) ∧ Below W0.heap.size W0 wr) (fun i _ => ds.length - (intOf i).toNat)
      case atStart => exact ⟨0, L, aoS, cS, Nat.zero_le _, rfl, HSS, HNOD, Lib.hid (by rw [List.drop_zero]), HSZ, bal hbo _⟩
      case round =>
        clear HSS HNOD xx3 hlo
        obtain ⟨n, Ln, aon, cn, hn, rfl, hset, hnod, hdel, hszn, hb⟩ := hrel
        have hsr : wo.heap.size < wr.heap.size := hset.out.var.lt
        have hlxr : w.heap.size + 1 < wr.heap.size := Nat.lt_of_lt_of_le hlx hb.size
        have xx3 := kcell hb hlx e3
        by_cases hlt : n < ds.length
        · obtain ⟨g, hg⟩ : ∃ g, ds[n]? = some g := ⟨_, List.getElem?_eq_getElem hlt⟩
          obtain ⟨b, off, hbl, hix, hcs⟩ := idx_at (P := Try.prog) (HD.out.below hb) 34 52 Try.underlying34 Try.sizeOf52 hg
          obtain ⟨g0, g1⟩ := gone_cells hcs
          have hrange := HDR.out g (List.mem_of_getElem? hg)
          obtain ⟨k, hk⟩ : ∃ k : Nat, g.lv = k := ⟨g.lv.toNat, by omega⟩
          have hk4 : k < 4 := by omega
          have HTN : Hid (g.lv.toNat = k) := Lib.hid (by omega)
          have HG := Lib.hid hg
          clear hg hcs hrange
          obtain ⟨glv, gnu⟩ := g
          dsimp only at hk g0 g1 HTN
          subst hk
          have sc := hset.out.cell hk4
          have sf := hset.out.var.free k
          have hk0 : (0 : Int) ≤ (k : Int) := by omega
          have hki : (k : Int) < 4 := by omega
          have hn0 : (0 : Int) ≤ (n : Int) := by omega
          have hn1 : (n : Int) < (ds.length : Int) := by omega
          have HWL : Hid (decide ((withoutS (Ln k) gnu).length < (Ln k).length) = (dropI (Ln k) gnu).isSome) := Lib.hid (without_len (hnod.out k hk4))
          go_wp2_with fail
          go_region_held3 (fun wh => wh.cell? ⟨wo.heap.size, k, none⟩ = some (.slice (aon k) (Ln k).length (cn k)) ∧ wh.cell? ⟨w.heap.size + 1, 3, none⟩ = some (.slice aod ds.length cd) ∧ wh.cell? ⟨b, off + n * 2 + 1, none⟩ = some (.int .u64 gnu) ∧ Below wr.heap.size wr wh)
            ((go_split_ands; (repeat' apply And.intro) <;> first | (exact bdr (Below.refl _ _)) | assumption | (refine bkeep' hb9 ?_; assumption) | (refine btr ?_ hb9; assumption)))
            (first | (go_at_call 37; go_split_ands; refine (without_any (aon k) (cn k) (Ln k) gnu _ (((hset.out.lists k hk4)).below ?_) (Nat.le_trans (hszn.out k hk4) (by omega))).mono ?_; (first | assumption | exact bdr (Below.refl _ _)); rintro e w9 ⟨ao9, c9, rfl, hat9, hb9⟩))
          rename_i hS
          obtain ⟨-, -, -, hb9'⟩ := hS
          have hb3 := btr hb hb9'
          rw [HWL.out]
          have hc3 := bkeep hb9' sc
          have hf3 := kfro hb9' hsr sf
          have hs9 : wo.heap.size < w9.heap.size := Nat.lt_of_lt_of_le hsr hb9'.size
          cases hdr : dropI (Ln k) gnu with
          | none =>
            have HN : Hid (applyS L log nx la ds fs = (141, noneV)) := by show _ = _; rw [HA.out, delsS_none hdel.out HG.out (by rw [HTN.out]; exact hdr)]
            clear hdr
            rw [Option.isSome_none]
            have x0 := kcell hb3 hlr r0
            have x1 := kcell hb3 hlr r1
            have x2 := kcell hb3 hlr r2
            have x3 := kcell hb3 hlr r3
            have y0 := kfro hb3 hlr q0
            have y1 := kfro hb3 hlr q1
            have y2 := kfro hb3 hlr q2
            have y3 := kfro hb3 hlr q3
            go_wp2
            have hbw := btr hb0 hb3
            rw [HN.out]
            refine bodyPost_ret (v := .tuple #[.agg #[.slice none 0 0, .slice none 0 0, .slice none 0 0, .slice none 0 0], .int .i64 (141)]) (by simp [results, Try.results13, go_sem, x0, x1, x2, x3]) rfl ⟨_, rfl, IsV.none _, ?_⟩
            exact bset (bset (bset (bset hbw hle _) hle _) hle _) hle _
          | some i =>
            have HDRN := Lib.hid hdr
            clear hdr
            rw [Option.isSome_some]
            go_wp2
            refine ⟨⟨n + 1, _, _, _, by omega, by go_num, Lib.hid ((hset.out.below hb9').store hk4 hat9 (hat9.apartV (hset.out.below hb9').var)), Lib.hid (nod_del hnod.out k gnu), Lib.hid (by have := delsS_some hdel.out HG.out (by rw [HTN.out]; exact HDRN.out); rw [HTN.out] at this; rw [without_some (hnod.out k hk4) HDRN.out]; exact this), Lib.hid (updG_len hszn.out (Nat.le_trans (List.length_filter_le _ _) (hszn.out k hk4)) (Nat.le_refl _)), bset hb3 hsb _⟩, ?measure⟩
            case measure => simp [intOf]; omega
        · obtain rfl : n = ds.length := by omega
          have HA2 : Hid (applyS L log nx la ds fs = addsS Ln fs) := by show _ = _; rw [HA.out, delsS_end hdel.out]
          have xx4 := kcell hb hlx e4
          clear hdel
          go_wp2_with fail
          go_loopw [12] (fun i wr => ∃ (m : Nat) (Lm : Nat → List Fl) (aom : Nat → Option Addr) (cm : Nat → Nat), m ≤ fs.length ∧ i = .int .i64 m ∧ Hid (VerAt wr wo.heap.size Lm aom cm) ∧ Hid (addsS Ln fs = addsS Lm (fs.drop m)) ∧ Hid (∀ i, i < 4 → (Lm i).length ≤ 900000 + m) ∧ Below W0.heap.size W0 wr) (fun i _ => fs.length - (intOf i).toNat)
          case atStart => exact ⟨0, Ln, aon, cn, Nat.zero_le _, rfl, hset, Lib.hid (by rw [List.drop_zero]), hszn, hb⟩
          case round =>
            clear hb hset xx3 xx4 hsr hszn hnod hlxr
            obtain ⟨m, Lm, aom, cm, hm, rfl, hset, hadd, hszm, hb⟩ := hrel
            obtain ⟨wr, hwr⟩ : ∃ wm, wm = wr := ⟨_, rfl⟩
            subst hwr
            have hsr : wo.heap.size < wr.heap.size := hset.out.var.lt
            have hlxr : w.heap.size + 1 < wr.heap.size := Nat.lt_of_lt_of_le hlx hb.size
            have xx4 := kcell hb hlx e4
            by_cases hltm : m < fs.length
            · obtain ⟨f, hf⟩ : ∃ f, fs[m]? = some f := ⟨_, List.getElem?_eq_getElem hltm⟩
              obtain ⟨b, off, hbl, hix, hcs⟩ := idx_at (P := Try.prog) (HF.out.below hb) 23 50 Try.underlying23 Try.sizeOf50 hf
              have hrange := HFR.out f (List.mem_of_getElem? hf)
              obtain ⟨k, hk⟩ : ∃ k : Nat, f.lv = k := ⟨f.lv.toNat, by omega⟩
              have hk4 : k < 4 := by omega
              have HTN : Hid (f.lv.toNat = k) := Lib.hid (by omega)
              have HG := Lib.hid hf
              clear hf hrange
              obtain ⟨lv, nu, sz, su, ss, sk, lu, ls, lk⟩ := f
              obtain ⟨p0, p1, p2, p3, p4, p5, p6, p7, p8⟩ := file_cells hcs
              dsimp only at hk p0 p1 p2 p3 p4 p5 p6 p7 p8 HTN
              subst hk
              clear hcs
              have HVB := Lib.hid (Var.new wr #[.int .i64 (k : Int), .int .u64 nu, .int .i64 sz, .string su, .int .u64 ss, .int .i64 sk, .string lu, .int .u64 ls, .int .i64 lk] 50)
              have HS1 := Lib.hid (hset.out.below (bal (Below.refl _ wr) (.cells #[.int .i64 (k : Int), .int .u64 nu, .int .i64 sz, .string su, .int .u64 ss, .int .i64 sk, .string lu, .int .u64 ls, .int .i64 lk] 50)))
              have hszm1 : Hid (∀ i, i < 4 → (Lm i).length ≤ 1000000) := Lib.hid fun i hi => by have := hszm.out i hi; omega
              go_wp2_with fail
              obtain ⟨W1, hW1⟩ : ∃ W1, W1 = wr.alloc (.cells #[.int .i64 (k : Int), .int .u64 nu, .int .i64 sz, .string su, .int .u64 ss, .int .i64 sk, .string lu, .int .u64 ls, .int .i64 lk] 50) := ⟨_, rfl⟩
              rw [← hW1] at HVB HS1 ⊢
              have hbW1 : Below W0.heap.size W0 W1 := by rw [hW1]; exact bal hb _
              have hl1 : wr.heap.size < W1.heap.size := HVB.out.lt
              clear hW1 p0 p1 p2 p3 p4 p5 p6 p7 p8
              obtain ⟨fb, hfb⟩ : ∃ fb, fb = wr.heap.size := ⟨_, rfl⟩
              rw [← hfb] at HVB hl1 hsr ⊢
              have hfw : fb ≠ wo.heap.size := by omega
              clear hfb
              go_loopw [14] (fun i wr => ∃ j : Nat, j ≤ 4 ∧ i = .int .i64 j ∧ Hid (∀ k, k < j → (Lm k).any (·.nu == nu) = false) ∧ Below W1.heap.size W1 wr) (fun i _ => 4 - (intOf i).toNat)
              case atStart => exact ⟨0, Nat.zero_le _, rfl, Lib.hid (fun j hj => by omega), Below.refl _ _⟩
              case round =>
                obtain ⟨j, hj, rfl, hno, hb3⟩ := hrel
                by_cases hltj : j < 4
                · have hd4 : decide ((j : Int) < 4) = true := by simp; omega
                  go_wp2_with fail
                  go_loopw [15] (fun i wr => ∃ q : Nat, q ≤ (Lm j).length ∧ i = .int .i64 q ∧ Hid (∀ p, p < q → ∀ x, (Lm j)[p]? = some x → (x.nu == nu) = false) ∧ Below W1.heap.size W1 wr) (fun i _ => (Lm j).length - (intOf i).toNat)
                  case atStart => exact ⟨0, Nat.zero_le _, rfl, Lib.hid (fun j hj => by omega), hb3⟩
                  case round =>
                    clear hb3
                    obtain ⟨q, hq, rfl, hno2, hb3⟩ := hrel
                    have hset3 := HS1.out.below hb3
                    have scj := hset3.cell hltj
                    have hz3 : wo.heap.size < wr.heap.size := hset3.var.lt
                    have f1 := (HVB.out.below hb3).cell 1
                    have hj0 : (0 : Int) ≤ (j : Int) := by omega
                    have hj4 : (j : Int) < 4 := by omega
                    have hlenj := hszm1.out j hltj
                    by_cases hltq : q < (Lm j).length
                    · obtain ⟨x, hx⟩ : ∃ x, (Lm j)[q]? = some x := ⟨_, List.getElem?_eq_getElem hltq⟩
                      obtain ⟨b2, off2, hbl2, hix2, hcs2⟩ := idx_at (P := Try.prog) (hset3.lists j hltj) 23 50 Try.underlying23 Try.sizeOf50 hx
                      have c1 := (file_cells hcs2).2.1
                      have HX := Lib.hid hx
                      clear hx hcs2 hset3
                      cases hq : (x.nu == nu)
                      · have HQ := Lib.hid hq
                        go_wp2
                        go_quiet (fail)
                        go_wp2
                        go_roundw
                        case rel =>
                          refine ⟨q + 1, by omega, by go_num, Lib.hid (fun p hp y hy => ?_), bdrn hb3 _⟩
                          by_cases hpq : p = q
                          · subst hpq; rw [HX.out] at hy; cases hy; exact HQ.out
                          · exact hno2.out p (by omega) y hy
                        case measure => simp [intOf]; omega
                      · have HN : Hid (applyS L log nx la ds fs = (142, noneV)) := by show _ = _; rw [HA2.out, addsS_there hadd.out HG.out (thereS_of hltj (List.any_eq_true.2 ⟨x, List.mem_of_getElem? HX.out, hq⟩))]
                        have hbq := btr hbW1 hb3
                        have x0 := kcell hbq hlr r0
                        have x1 := kcell hbq hlr r1
                        have x2 := kcell hbq hlr r2
                        have x3 := kcell hbq hlr r3
                        have y0 := kfro hbq hlr q0
                        have y1 := kfro hbq hlr q1
                        have y2 := kfro hbq hlr q2
                        have y3 := kfro hbq hlr q3
                        go_wp2
                        go_quiet (fail)
                        go_wp2
                        have hbw := bdrn (btr hb0 hbq) nq
                        rw [HN.out]
                        refine bodyPost_ret (v := .tuple #[.agg #[.slice none 0 0, .slice none 0 0, .slice none 0 0, .slice none 0 0], .int .i64 (142)]) (by simp [results, Try.results13, go_sem, x0, x1, x2, x3]) rfl ⟨_, rfl, IsV.none _, ?_⟩
                        exact bset (bset (bset (bset hbw hle _) hle _) hle _) hle _
                    · obtain rfl : q = (Lm j).length := by omega
                      clear hset3
                      go_wp2
                      go_roundw
                      case rel =>
                        refine ⟨j + 1, by omega, by go_num, Lib.hid (fun k hk => ?_), hb3⟩
                        by_cases hkj : k = j
                        · subst hkj
                          rw [List.any_eq_false]
                          intro x hx
                          obtain ⟨p, hp, rfl⟩ := List.getElem_of_mem hx
                          simpa using hno2.out p hp _ (List.getElem?_eq_getElem hp)
                        · exact hno.out k (by omega)
                      case measure => simp [intOf]; omega
                · obtain rfl : j = 4 := by omega
                  have HTH : Hid (thereS Lm nu = false) := Lib.hid (thereS_none hno.out)
                  clear hno hltj
                  go_wp2_with fail
                  go_loopw [16, 17] (fun i _ wr => ∃ q : Nat, q ≤ (Lm k).length ∧ i = .int .i64 q ∧ Hid (0 < k → overS ((Lm k).take q) su lu = []) ∧ Below W1.heap.size W1 wr) (fun i _ _ => (Lm k).length - (intOf i).toNat)
                  case atStart => exact ⟨0, Nat.zero_le _, rfl, Lib.hid (fun _ => rfl), hb3⟩
                  case round =>
                    clear hb3
                    obtain ⟨q, hq, rfl, hno2, hb3⟩ := hrel
                    obtain ⟨wr, hwr⟩ : ∃ wm, wm = wr := ⟨_, rfl⟩
                    subst hwr
                    have hset3 := HS1.out.below hb3
                    have HS3 := Lib.hid hset3
                    have sck := hset3.cell hk4
                    have sfk := hset3.var.free k
                    have hz3 : wo.heap.size < wr.heap.size := hset3.var.lt
                    have hl3 : fb < wr.heap.size := Nat.lt_of_lt_of_le hl1 hb3.size
                    have hV3 := HVB.out.below hb3
                    have f0 := hV3.cell 0
                    have f3 := hV3.cell 3
                    have f6 := hV3.cell 6
                    have hk0 : (0 : Int) ≤ (k : Int) := by omega
                    have hki : (k : Int) < 4 := by omega
                    have hbW3 := btr hbW1 hb3
                    by_cases hltq : q < (Lm k).length
                    · obtain ⟨x, hx⟩ : ∃ x, (Lm k)[q]? = some x := ⟨_, List.getElem?_eq_getElem hltq⟩
                      obtain ⟨b2, off2, hbl2, hix2, hcs2⟩ := idx_at (P := Try.prog) (hset3.lists k hk4) 23 50 Try.underlying23 Try.sizeOf50 hx
                      have HX := Lib.hid hx
                      have HSO := Lib.hid (overS_snoc (Lm k) su lu q x hx)
                      have hq0 : (0 : Int) ≤ (q : Int) := by omega
                      have hqi : (q : Int) < ((Lm k).length : Int) := by omega
                      obtain ⟨xlv, xnu, xsz, xsu, xss, xsk, xlu, xls, xlk⟩ := x
                      obtain ⟨e0, e1, e2, e3, e4, e5, e6, e7, e8⟩ := file_cells hcs2
                      dsimp only at e0 e1 e2 e3 e4 e5 e6 e7 e8
                      clear hx hcs2 hset3 hV3
                      go_wp2_with fail
                      go_region_held3 (fun wh => wh.cell? ⟨wo.heap.size, k, none⟩ = some (.slice (aom k) (Lm k).length (cm k)) ∧ wh.cell? ⟨fb, 0, none⟩ = some (.int .i64 (k : Int)) ∧ wh.cell? ⟨fb, 3, none⟩ = some (.string su) ∧ wh.cell? ⟨fb, 6, none⟩ = some (.string lu) ∧ wh.cell? ⟨b2, off2 + q * 9, none⟩ = some (.int .i64 xlv) ∧ wh.cell? ⟨b2, off2 + q * 9 + 1, none⟩ = some (.int .u64 xnu) ∧ wh.cell? ⟨b2, off2 + q * 9 + 2, none⟩ = some (.int .i64 xsz) ∧ wh.cell? ⟨b2, off2 + q * 9 + 3, none⟩ = some (.string xsu) ∧ wh.cell? ⟨b2, off2 + q * 9 + 4, none⟩ = some (.int .u64 xss) ∧ wh.cell? ⟨b2, off2 + q * 9 + 5, none⟩ = some (.int .i64 xsk) ∧ wh.cell? ⟨b2, off2 + q * 9 + 6, none⟩ = some (.string xlu) ∧ wh.cell? ⟨b2, off2 + q * 9 + 7, none⟩ = some (.int .u64 xls) ∧ wh.cell? ⟨b2, off2 + q * 9 + 8, none⟩ = some (.int .i64 xlk) ∧ Below wr.heap.size wr wh)
                        ((go_split_ands; (repeat' apply And.intro) <;> first | (exact bdr (Below.refl _ _)) | assumption | (refine bkeep' hb9 ?_; assumption) | (refine btr ?_ hb9; assumption)))
                        (first | (go_at_call 38; go_split_ands; refine (refHas_any xlv xnu xsz xsu xss xsk xlu xls xlk su lu _).mono ?_; rintro e w9 ⟨rfl, hb9⟩))
                      rename_i hS
                      obtain ⟨-, g0, g3, g6, -, -, -, -, -, -, -, -, -, hb9'⟩ := hS
                      have hb4 := btr hb3 hb9'
                      by_cases h0k : 0 < k
                      · have hdk : decide ((0 : Int) < (k : Int)) = true := by simp; omega
                        have hlenk := hszm1.out k hk4
                        cases hh : hasU xsu xlu su lu
                        · have HH := Lib.hid hh
                          clear hh
                          go_wp2
                          refine ⟨?_, ?measure⟩
                          repeat (apply Exists.intro)
                          refine ⟨?rel, ?frame⟩
                          case frame => rfl
                          case rel => exact ⟨q + 1, by omega, by go_num, Lib.hid (fun h => by have := HSO.out; (try dsimp only at this); rw [HH.out] at this; rw [this, hno2.out h]; rfl), hb4⟩
                          case measure => simp [intOf]; omega
                        · have HN : Hid (applyS L log nx la ds fs = (143, noneV)) := by
                            show _ = _
                            have h1 : hasU xsu xlu su lu = true := hh
                            rw [HA2.out, addsS_over hadd.out HG.out HTH.out]
                            rw [HTN.out]
                            simp only [Bool.and_eq_true, Bool.not_eq_true', hdk, true_and]
                            have hm : (⟨xlv, xnu, xsz, xsu, xss, xsk, xlu, xls, xlk⟩ : Fl) ∈ overS (Lm k) su lu := List.mem_filter.2 ⟨List.mem_of_getElem? HX.out, h1⟩
                            exact List.isEmpty_eq_false_iff.2 (List.ne_nil_of_mem hm)
                          clear hh
                          have hbq := btr hbW1 hb4
                          have x0 := kcell hbq hlr r0
                          have x1 := kcell hbq hlr r1
                          have x2 := kcell hbq hlr r2
                          have x3 := kcell hbq hlr r3
                          have y0 := kfro hbq hlr q0
                          have y1 := kfro hbq hlr q1
                          have y2 := kfro hbq hlr q2
                          have y3 := kfro hbq hlr q3
                          go_wp2
                          have hbw := btr hb0 hbq
                          rw [HN.out]
                          refine bodyPost_ret (v := .tuple #[.agg #[.slice none 0 0, .slice none 0 0, .slice none 0 0, .slice none 0 0], .int .i64 (143)]) (by simp [results, Try.results13, go_sem, x0, x1, x2, x3]) rfl ⟨_, rfl, IsV.none _, ?_⟩
                          exact bset (bset (bset (bset hbw hle _) hle _) hle _) hle _
                      · have hdk : decide ((0 : Int) < (k : Int)) = false := by simp; omega
                        have hlenk := hszm1.out k hk4
                        go_wp2
                        refine ⟨?_, ?measure⟩
                        repeat (apply Exists.intro)
                        refine ⟨?rel, ?frame⟩
                        case frame => rfl
                        case rel => exact ⟨q + 1, by omega, by go_num, Lib.hid (fun h => absurd h h0k), hb4⟩
                        case measure => simp [intOf]; omega
                    · obtain rfl : q = (Lm k).length := by omega
                      have HAD : Hid (addsS Ln fs = addsS (updG Lm k (putS (Lm k) ⟨(k : Int), nu, sz, su, ss, sk, lu, ls, lk⟩)) (fs.drop (m + 1))) := by
                        show _ = _
                        have h1 := hno2.out
                        rw [List.take_length] at h1
                        have h2 : (decide ((0 : Int) < (k : Int)) && !(overS (Lm k) su lu).isEmpty) = false := by
                          by_cases h0k : 0 < k
                          · rw [h1 h0k]; simp
                          · have : decide ((0 : Int) < (k : Int)) = false := by simp; omega
                            rw [this]; rfl
                        rw [← HTN.out] at h2
                        have := addsS_put hadd.out HG.out HTH.out (by simpa [HTN.out] using h2)
                        dsimp only at this
                        rw [HTN.out] at this
                        exact this
                      have f1 := hV3.cell 1
                      have f2 := hV3.cell 2
                      have f4 := hV3.cell 4
                      have f5 := hV3.cell 5
                      have f7 := hV3.cell 7
                      have f8 := hV3.cell 8
                      clear hV3 hset3 hno2
                      go_wp2_with fail
                      have hveil := veil_eq
                      rw [← veil_eq ⟨some 139, _, _, _, _, _⟩]
                      go_region_held3 (fun wh => wh.cell? ⟨fb, 0, none⟩ = some (.int .i64 (k : Int)) ∧ wh.cell? ⟨fb, 1, none⟩ = some (.int .u64 nu) ∧ wh.cell? ⟨fb, 2, none⟩ = some (.int .i64 sz) ∧ wh.cell? ⟨fb, 3, none⟩ = some (.string su) ∧ wh.cell? ⟨fb, 4, none⟩ = some (.int .u64 ss) ∧ wh.cell? ⟨fb, 5, none⟩ = some (.int .i64 sk) ∧ wh.cell? ⟨fb, 6, none⟩ = some (.string lu) ∧ wh.cell? ⟨fb, 7, none⟩ = some (.int .u64 ls) ∧ wh.cell? ⟨fb, 8, none⟩ = some (.int .i64 lk))
                        ((go_split_ands; (repeat' apply And.intro) <;> first | assumption | (refine bkeep' hb9' ?_; assumption) | (refine kset hfw ?_; assumption)))
                        (first | (go_at_call 39; refine (with_any (aom k) (cm k) (Lm k) ⟨(k : Int), nu, sz, su, ss, sk, lu, ls, lk⟩ _ ((HS3.out.below ?_).lists k hk4) (hszm1.out k hk4)).mono ?_; (first | exact bdr (Below.refl _ _) | exact Below.refl _ _); rintro e w9 ⟨a9, d9, rfl, hat9, hne9, hb9'⟩; have hb9 : Below wr.heap.size wr w9 := btr (by first | exact bdr (Below.refl _ _) | exact Below.refl _ _) hb9'; have hz9 : wo.heap.size < w9.heap.size := Nat.lt_of_lt_of_le hz3 hb9.size; have sfk9 := kfro hb9 hz3 sfk; have sck9 := kcell hb9 hz3 sck))
                      go_wp2
                      refine ⟨⟨m + 1, _, _, _, by omega, by go_num, Lib.hid ((HS3.out.below hb9).store hk4 hat9 (hat9.apartV (HS3.out.below hb9).var)), HAD, Lib.hid (updG_len hszm.out (by rw [putS_len]; have := hszm.out k hk4; omega) (by omega)), bset (btr hbW3 hb9) hsb _⟩, ?measure⟩
                      case measure => simp [intOf]; omega
            · obtain rfl : m = fs.length := by omega
              have HE : Hid (applyS L log nx la ds fs = (0, Lm)) := by show _ = _; rw [HA2.out, addsS_end hadd.out]
              clear hadd
              have o0 := hset.out.cell (k := 0) (by decide)
              have o1 := hset.out.cell (k := 1) (by decide)
              have o2 := hset.out.cell (k := 2) (by decide)
              have o3 := hset.out.cell (k := 3) (by decide)
              have x0 := kcell hb hlr r0
              have x1 := kcell hb hlr r1
              have x2 := kcell hb hlr r2
              have x3 := kcell hb hlr r3
              have y0 := kfro hb hlr q0
              have y1 := kfro hb hlr q1
              have y2 := kfro hb hlr q2
              have y3 := kfro hb hlr q3
              have HNE := Lib.hid (fun i hi => (hset.out.lists i hi).apartV (HVR.out.below hb))
              go_wp2
              have hbw := btr hb0 hb
              rw [HE.out]
              refine bodyPost_ret (v := .tuple #[.agg #[.slice (aom 0) (Lm 0).length (cm 0), .slice (aom 1) (Lm 1).length (cm 1), .slice (aom 2) (Lm 2).length (cm 2), .slice (aom 3) (Lm 3).length (cm 3)], .int .i64 0]) (by simp [results, Try.results13, go_sem, x0, x1, x2, x3]) rfl ⟨_, rfl, ⟨aom, cm, rfl, fun i hi => ?_⟩, ?_⟩
              · exact ((((hset.out.lists i hi).setFar _ (HNE.out i hi)).setFar _ (HNE.out i hi)).setFar _ (HNE.out i hi)).setFar _ (HNE.out i hi)
              · exact bset (bset (bset (bset hbw hle _) hle _) hle _) hle _
    · have hed1 : (editS log nx la ds fs != 0) = true := by simp [hed]
      have HA : Hid (applyS L log nx la ds fs = (editS log nx la ds fs, noneV)) := by show _ = _; unfold applyS; rw [if_neg (by rw [HCK.out]; decide), if_pos hed]
      clear hed
      go_enter Try.func13, Try.ntmps13
      go_wp2_with (first | (go_at_call 16; rw [← HW.out]; refine (refCheck_any ao L c W0 HAT.out HSZ1.out).mono ?_; rintro e w1 ⟨rfl, hb1⟩; have xx0 := kcell hb1 hlx e0; have xx1 := kcell hb1 hlx e1; have xx2 := kcell hb1 hlx e2; have xx3 := kcell hb1 hlx e3; have xx4 := kcell hb1 hlx e4) | (go_at_call 36; refine (refEdit_any log nx la aod cd ds aof cf fs _ (HD.out.below hb1) (HF.out.below hb1)).mono ?_; rintro e w2 ⟨rfl, hb2'⟩; have hb2 := btr hb1 hb2'; have x0 := kcell hb2 hlr r0; have x1 := kcell hb2 hlr r1; have x2 := kcell hb2 hlr r2; have x3 := kcell hb2 hlr r3; have y0 := kfro hb2 hlr q0; have y1 := kfro hb2 hlr q1; have y2 := kfro hb2 hlr q2; have y3 := kfro hb2 hlr q3))
      have hbw := btr hb0 hb2
      rw [HA.out]
      refine bodyPost_ret (v := .tuple #[.agg #[.slice none 0 0, .slice none 0 0, .slice none 0 0, .slice none 0 0], .int .i64 (editS log nx la ds fs)]) (by simp [results, Try.results13, go_sem, x0, x1, x2, x3]) rfl ⟨_, rfl, IsV.none _, ?_⟩
      exact bset (bset (bset (bset hbw hle _) hle _) hle _) hle _
  · have hck1 : (checkS L != 0) = true := by simp [hck]
    have HA : Hid (applyS L log nx la ds fs = (140, noneV)) := by show _ = _; unfold applyS; rw [if_pos (by rw [hck]; decide)]
    clear hck
    go_enter Try.func13, Try.ntmps13
    go_wp2_with (go_at_call 16; rw [← HW.out]; refine (refCheck_any ao L c W0 HAT.out HSZ1.out).mono ?_; rintro e w1 ⟨rfl, hb1⟩; have x0 := kcell hb1 hlr r0; have x1 := kcell hb1 hlr r1; have x2 := kcell hb1 hlr r2; have x3 := kcell hb1 hlr r3; have y0 := kfro hb1 hlr q0; have y1 := kfro hb1 hlr q1; have y2 := kfro hb1 hlr q2; have y3 := kfro hb1 hlr q3)
    have hbw := btr hb0 hb1
    rw [HA.out]
    refine bodyPost_ret (v := .tuple #[.agg #[.slice none 0 0, .slice none 0 0, .slice none 0 0, .slice none 0 0], .int .i64 140]) (by simp [results, Try.results13, go_sem, x0, x1, x2, x3]) rfl ⟨_, rfl, IsV.none _, ?_⟩
    exact bset (bset (bset (bset hbw hle _) hle _) hle _) hle _

end Go.Proofs.Ytjeanhaadbkncaa
