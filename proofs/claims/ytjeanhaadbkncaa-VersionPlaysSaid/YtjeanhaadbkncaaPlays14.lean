/- The walk of VersionPlays: it returns true. -/
import Derived.Test.YtjeanhaadbkncaaAwake14
import Derived.Test.YtjeanhaadbkncaaRefApply
import Derived.Test.YtjeanhaadbkncaaPlayLaw
import Derived.Test.YtjeanhaadbkncaaEds
import Derived.Test.YtjeanhaadbkncaaSame
import Derived.Deep.RegionHeld3
import Derived.Deep.DeepCutAuto
namespace Go.Proofs.Ytjeanhaadbkncaa
open Go.RowKit

theorem sameV_refl (L : Nat → List Fl) : sameV L L = true := (sameV_iff L L).2 fun _ _ => rfl
theorem VerAt.drewN {w : World} {sb : Nat} {L : Nat → List Fl} {ao : Nat → Option Addr} {c : Nat → Nat} (h : VerAt w sb L ao c) (n : Nat) : VerAt (w.drewN n) sb L ao c := h.below (bdrn (Below.refl _ _) n)
theorem ten_of (ea : Option Addr) (ec : Nat) (es : List Ed) (w : World) (he : At w encE 5 ea ec es) (hes : ∀ x ∈ es, EdAt w x) :
    ∃ ts : List Ed, ts.length ≤ 10 ∧ At w encE 5 ea ec ts ∧ (∀ x ∈ ts, EdAt w x) ∧ ((10 < es.length ∧ ts.length = 10) ∨ (¬ 10 < es.length ∧ ts.length = es.length)) := by
  by_cases h : 10 < es.length
  · refine ⟨es.take 10, by simp; omega, he.takeTen 10, fun x hx => hes x (List.mem_of_mem_take hx), .inl ⟨h, by simp; omega⟩⟩
  · exact ⟨es, by omega, he, hes, .inr ⟨h, rfl⟩⟩

theorem VerAt.other {w : World} {g : Nat} {L : Nat → List Fl} {ao : Nat → Option Addr} {c : Nat → Nat} (h : VerAt w g L ao c) {r : Nat} (hne : g ≠ r) (hl : ∀ i, i < 4 → ∀ (j : Nat) (x : Fl), (L i)[j]? = some x → ∀ b, ao i = some b → b.block ≠ r) (j : Nat) (v : Value) : VerAt (w.setCell ⟨r, j, none⟩ v) g L ao c :=
  ⟨h.var.setOther hne _, fun i hi => (h.lists i hi).setFar _ (hl i hi), h.ne⟩
theorem VerAt.laid {w : World} {g : Nat} {L0 : Nat → List Fl} {ao0 : Nat → Option Addr} {c0 : Nat → Nat} (h : VerAt w g L0 ao0 c0) {L : Nat → List Fl} {ao : Nat → Option Addr} {c : Nat → Nat} (hat : ∀ i, i < 4 → At w encF 9 (ao i) (c i) (L i)) :
    VerAt ((((w.setCell ⟨g, 0, none⟩ (.slice (ao 0) (L 0).length (c 0))).setCell ⟨g, 1, none⟩ (.slice (ao 1) (L 1).length (c 1))).setCell ⟨g, 2, none⟩ (.slice (ao 2) (L 2).length (c 2))).setCell ⟨g, 3, none⟩ (.slice (ao 3) (L 3).length (c 3))) g L ao c := by
  refine VerAt.of ?_ fun i hi => ?_
  · have := (((h.var.set 0 (.slice (ao 0) (L 0).length (c 0))).set 1 (.slice (ao 1) (L 1).length (c 1))).set 2 (.slice (ao 2) (L 2).length (c 2))).set 3 (.slice (ao 3) (L 3).length (c 3))
    simpa using this
  · have hq := (hat i hi).apartV h.var
    exact ((((hat i hi).setFar _ hq).setFar _ hq).setFar _ hq).setFar _ hq
theorem At.laidFar {w : World} {g : Nat} {ao : Option Addr} {c : Nat} {xs : List Fl} (h : At w encF 9 ao c xs) {L : Nat → List Fl} {a : Nat → Option Addr} {d : Nat → Nat} {L0 : Nat → List Fl} {ao0 : Nat → Option Addr} {c0 : Nat → Nat} (hv : VerAt w g L0 ao0 c0) :
    At ((((w.setCell ⟨g, 0, none⟩ (.slice (a 0) (L 0).length (d 0))).setCell ⟨g, 1, none⟩ (.slice (a 1) (L 1).length (d 1))).setCell ⟨g, 2, none⟩ (.slice (a 2) (L 2).length (d 2))).setCell ⟨g, 3, none⟩ (.slice (a 3) (L 3).length (d 3))) encF 9 ao c xs := by
  have hq := h.apartV hv.var
  exact (((h.setFar _ hq).setFar _ hq).setFar _ hq).setFar _ hq
theorem two_laid {w : World} {vb rb : Nat} {L M : Nat → List Fl} {aov aor aoa aob : Nat → Option Addr} {cv cr ca cb : Nat → Nat} (hv : VerAt w vb L aov cv) (hr : VerAt w rb L aor cr) (hne : vb ≠ rb)
    (ha : ∀ i, i < 4 → At w encF 9 (aoa i) (ca i) (M i)) (hb : ∀ i, i < 4 → At w encF 9 (aob i) (cb i) (M i)) {w1 w2 : World}
    (h1 : w1 = ((((w.setCell ⟨vb, 0, none⟩ (.slice (aoa 0) (M 0).length (ca 0))).setCell ⟨vb, 1, none⟩ (.slice (aoa 1) (M 1).length (ca 1))).setCell ⟨vb, 2, none⟩ (.slice (aoa 2) (M 2).length (ca 2))).setCell ⟨vb, 3, none⟩ (.slice (aoa 3) (M 3).length (ca 3))))
    (h2 : w2 = ((((w1.setCell ⟨rb, 0, none⟩ (.slice (aob 0) (M 0).length (cb 0))).setCell ⟨rb, 1, none⟩ (.slice (aob 1) (M 1).length (cb 1))).setCell ⟨rb, 2, none⟩ (.slice (aob 2) (M 2).length (cb 2))).setCell ⟨rb, 3, none⟩ (.slice (aob 3) (M 3).length (cb 3)))) :
    VerAt w2 vb M aoa ca ∧ VerAt w2 rb M aob cb := by
  have v1 : VerAt w1 vb M aoa ca := by rw [h1]; exact hv.laid ha
  have hq : ∀ i, i < 4 → ∀ (j : Nat) (x : Fl), (L i)[j]? = some x → ∀ b, aor i = some b → b.block ≠ vb := fun i hi => (hr.lists i hi).apartV hv.var
  have r1 : VerAt w1 rb L aor cr := by
    rw [h1]
    exact (((hr.other (Ne.symm hne) hq _ _).other (Ne.symm hne) hq _ _).other (Ne.symm hne) hq _ _).other (Ne.symm hne) hq _ _
  have b1 : ∀ i, i < 4 → At w1 encF 9 (aob i) (cb i) (M i) := fun i hi => by rw [h1]; exact (hb i hi).laidFar hv
  have hp : ∀ i, i < 4 → ∀ (j : Nat) (x : Fl), (M i)[j]? = some x → ∀ b, aoa i = some b → b.block ≠ rb := fun i hi => (v1.lists i hi).apartV r1.var
  rw [h2]
  exact ⟨(((v1.other hne hp _ _).other hne hp _ _).other hne hp _ _).other hne hp _ _, r1.laid b1⟩
theorem two_laid' {w : World} {vb rb : Nat} {L M : Nat → List Fl} {aov aor aoa aob : Nat → Option Addr} {cv cr ca cb : Nat → Nat} (hv : VerAt w vb L aov cv) (hr : VerAt w rb L aor cr) (hne : vb ≠ rb)
    (ha : ∀ i, i < 4 → At w encF 9 (aoa i) (ca i) (M i)) (hb : ∀ i, i < 4 → At w encF 9 (aob i) (cb i) (M i)) :
    Hid (VerAt (((((((((w.setCell ⟨vb, 0, none⟩ (.slice (aoa 0) (M 0).length (ca 0))).setCell ⟨vb, 1, none⟩ (.slice (aoa 1) (M 1).length (ca 1))).setCell ⟨vb, 2, none⟩ (.slice (aoa 2) (M 2).length (ca 2))).setCell ⟨vb, 3, none⟩ (.slice (aoa 3) (M 3).length (ca 3))).setCell ⟨rb, 0, none⟩ (.slice (aob 0) (M 0).length (cb 0))).setCell ⟨rb, 1, none⟩ (.slice (aob 1) (M 1).length (cb 1))).setCell ⟨rb, 2, none⟩ (.slice (aob 2) (M 2).length (cb 2))).setCell ⟨rb, 3, none⟩ (.slice (aob 3) (M 3).length (cb 3)))) vb M aoa ca) ∧ Hid (VerAt (((((((((w.setCell ⟨vb, 0, none⟩ (.slice (aoa 0) (M 0).length (ca 0))).setCell ⟨vb, 1, none⟩ (.slice (aoa 1) (M 1).length (ca 1))).setCell ⟨vb, 2, none⟩ (.slice (aoa 2) (M 2).length (ca 2))).setCell ⟨vb, 3, none⟩ (.slice (aoa 3) (M 3).length (ca 3))).setCell ⟨rb, 0, none⟩ (.slice (aob 0) (M 0).length (cb 0))).setCell ⟨rb, 1, none⟩ (.slice (aob 1) (M 1).length (cb 1))).setCell ⟨rb, 2, none⟩ (.slice (aob 2) (M 2).length (cb 2))).setCell ⟨rb, 3, none⟩ (.slice (aob 3) (M 3).length (cb 3)))) rb M aob cb) := ⟨Lib.hid (two_laid hv hr hne ha hb rfl rfl).1, Lib.hid (two_laid hv hr hne ha hb rfl rfl).2⟩

set_option maxRecDepth 100000 in
set_option maxHeartbeats 8000000 in
theorem plays14_any (ao : Nat → Option Addr) (L : Nat → List Fl) (c : Nat → Nat) (ea : Option Addr) (ec : Nat) (es : List Ed) (w : World) (hv : ∀ i, i < 4 → At w encF 9 (ao i) (c i) (L i)) (hwf : ∀ i, i < 4 → ∀ f ∈ L i, WfF f)
    (he : At w encE 5 ea ec es) (hes : ∀ x ∈ es, EdAt w x) (hc : ∀ i, i < 4 → (L i).length ≤ 140737488351232) :
    Calls Try.prog 4 #[.agg #[.slice (ao 0) (L 0).length (c 0), .slice (ao 1) (L 1).length (c 1), .slice (ao 2) (L 2).length (c 2), .slice (ao 3) (L 3).length (c 3)], .slice ea es.length ec] w fun e w' => e = .returned (.bool true) ∧ Below w.heap.size w w' := by
  obtain ⟨W0, hW0⟩ : ∃ W0, W0 = w.alloc (.cells #[.slice (ao 0) (L 0).length (c 0), .slice (ao 1) (L 1).length (c 1), .slice (ao 2) (L 2).length (c 2), .slice (ao 3) (L 3).length (c 3)] 26) := ⟨_, rfl⟩
  have hvv : Var W0 w.heap.size #[.slice (ao 0) (L 0).length (c 0), .slice (ao 1) (L 1).length (c 1), .slice (ao 2) (L 2).length (c 2), .slice (ao 3) (L 3).length (c 3)] 26 := by rw [hW0]; exact Var.new _ _ _
  have hlt0 : w.heap.size < W0.heap.size := by rw [hW0]; simp
  have hb0 : Below w.heap.size w W0 := by rw [hW0]; exact bal (Below.refl _ _) _
  have HVA := Lib.hid (VerAt.of hvv fun i hi => (hv i hi).below hb0)
  have v0 := hvv.cell 0
  have v1 := hvv.cell 1
  have v2 := hvv.cell 2
  have v3 := hvv.cell 3
  have hecap := he.len
  have HW := Lib.hid hW0
  have HC := Lib.hid hc
  obtain ⟨ts, ht10, htat, hted, hor⟩ := ten_of ea ec es w he hes
  have HT10 := Lib.hid ht10
  have HTAT := Lib.hid htat
  have HTED := Lib.hid hted
  have HOR := Lib.hid hor
  have HECAP := Lib.hid hecap
  have HWF := Lib.hid hwf
  clear hW0 hv hvv hc he hes ht10 htat hted hor hecap hwf
  cases hm : decide (1000 < count L) with
  | true =>
    have HM := Lib.hid hm
    clear hm
    go_enter Try.func4, Try.ntmps4
    go_wp2_with (first
      | (go_at_call 9; rw [← HW.out]; refine (awake14_any _).mono ?_; rintro e w1 ⟨rfl, hb1⟩; have x0 := kcell hb1 hlt0 v0; have x1 := kcell hb1 hlt0 v1; have x2 := kcell hb1 hlt0 v2; have x3 := kcell hb1 hlt0 v3)
      | (go_at_call 10; refine (many_any ao L c _ HC.out).mono ?_; rw [HM.out]; rintro e w2 ⟨rfl, hb2⟩))
    go_ret
    exact ⟨rfl, btr (btr hb0 hb1) hb2⟩
  | false =>
    have hsz : ∀ i, i < 4 → (L i).length ≤ 1000 := by
      have := of_decide_eq_false hm
      unfold count at this
      intro i hi
      rcases (show i = 0 ∨ i = 1 ∨ i = 2 ∨ i = 3 by omega) with rfl | rfl | rfl | rfl <;> omega
    have HM := Lib.hid hm
    have HSZ := Lib.hid hsz
    clear hm hsz
    go_enter Try.func4, Try.ntmps4
    go_upto_region 4 with (first
      | (go_at_call 9; rw [← HW.out]; refine (awake14_any _).mono ?_; rintro e w1 ⟨rfl, hb1⟩; have B1 := Lib.hid hb1; have x0 := kcell hb1 hlt0 v0; have x1 := kcell hb1 hlt0 v1; have x2 := kcell hb1 hlt0 v2; have x3 := kcell hb1 hlt0 v3; clear hb1)
      | (go_at_call 10; refine (many_any ao L c _ HC.out).mono ?_; rw [HM.out]; rintro e w2 ⟨rfl, hb2⟩; have B2 := Lib.hid (btr B1.out hb2); have x0 := kcell B2.out hlt0 v0; have x1 := kcell B2.out hlt0 v1; have x2 := kcell B2.out hlt0 v2; have x3 := kcell B2.out hlt0 v3; clear hb2))
    go_upto_if 21 with fail
    obtain ⟨W2, hW2⟩ : ∃ W2, W2 = w2 := ⟨_, rfl⟩
    subst hW2
    go_cut [1] (fun s1 wx => s1 = .slice ea ts.length ec ∧ wx = W2)
    case first =>
      rcases HOR.out with ⟨h1, h2⟩ | ⟨h1, h2⟩
      · have hcap := HECAP.out
        have hd : decide ((10 : Int) < (es.length : Int)) = true := by simp; omega
        have hcl : 10 ≤ ec := by omega
        have H2 := Lib.hid h2
        clear h2 hcap
        go_wp2
        go_meet
        exact ⟨by rw [H2.out], rfl⟩
      · have hd : decide ((10 : Int) < (es.length : Int)) = false := by simp; omega
        have H2 := Lib.hid h2
        clear h2
        go_wp2
        go_meet
        exact ⟨by rw [H2.out], rfl⟩
    case rest =>
      obtain ⟨rfl, rfl⟩ := hcut
      go_wp2_with (go_at_call 11; refine (own_any ao L c _ ((HVA.out.below B2.out).lists) (fun i hi => Nat.le_trans (HSZ.out i hi) (by omega))).mono ?_; rintro e w3 ⟨v, rfl, ⟨ao3, c3, rfl, hat3⟩, hb3⟩; have HAT3 := Lib.hid hat3; have B3 := Lib.hid (btr B2.out hb3); clear hb3 hat3)
      obtain ⟨W4, hW4⟩ : ∃ W4, W4 = w3.alloc (.cells #[.slice (ao3 0) (L 0).length (c3 0), .slice (ao3 1) (L 1).length (c3 1), .slice (ao3 2) (L 2).length (c3 2), .slice (ao3 3) (L 3).length (c3 3)] 26) := ⟨_, rfl⟩
      rw [← hW4]
      have HV4 : Hid (VerAt W4 w.heap.size L ao c) := Lib.hid (by rw [hW4]; exact (HVA.out.below B3.out).below (bal (Below.refl _ _) _))
      have HR4 : Hid (VerAt W4 w3.heap.size L ao3 c3) := Lib.hid (by rw [hW4]; exact VerAt.of (Var.new _ _ _) fun i hi => (HAT3.out i hi).below (bal (Below.refl _ _) _))
      have HB4 : Hid (Below w.heap.size w W4) := Lib.hid (by rw [hW4]; exact bal (btr hb0 B3.out) _)
      have hrv : w.heap.size < w3.heap.size := Nat.lt_of_lt_of_le hlt0 B3.out.size
      clear hW4 x0 x1 x2 x3 v0 v1 v2 v3
      obtain ⟨rb, hrb⟩ : ∃ rb, rb = w3.heap.size := ⟨_, rfl⟩
      rw [← hrb] at HR4 hrv ⊢
      clear hrb
      go_loopw [7] (fun i wr => ∃ (n : Nat) (Ln : Nat → List Fl) (aov : Nat → Option Addr) (cv : Nat → Nat) (aor : Nat → Option Addr) (cr : Nat → Nat), n ≤ ts.length ∧ i = .int .i64 n ∧ Hid (VerAt wr w.heap.size Ln aov cv) ∧ Hid (VerAt wr rb Ln aor cr) ∧ Hid (∀ i, i < 4 → (Ln i).length ≤ 1000 + 100 * n) ∧ Hid (∀ i, i < 4 → ∀ f ∈ Ln i, WfF f) ∧ Hid (Below w.heap.size w wr)) (fun i _ => ts.length - (intOf i).toNat)
      case atStart => exact ⟨0, L, ao, c, ao3, c3, Nat.zero_le _, rfl, HV4, HR4, HSZ, HWF, HB4⟩
      case round =>
        obtain ⟨n, Ln, aov, cv, aor, cr, hn, rfl, HV, HR, HZ, HF, HB⟩ := hrel
        obtain ⟨wr, hwr⟩ : ∃ wm, wm = wr := ⟨_, rfl⟩
        subst hwr
        have hlv : w.heap.size < wr.heap.size := HV.out.var.lt
        have hlr : rb < wr.heap.size := HR.out.var.lt
        have v0 := HV.out.cell (k := 0) (by decide)
        have v1 := HV.out.cell (k := 1) (by decide)
        have v2 := HV.out.cell (k := 2) (by decide)
        have v3 := HV.out.cell (k := 3) (by decide)
        by_cases hlt : n < ts.length
        · obtain ⟨x, hx⟩ : ∃ x, ts[n]? = some x := ⟨_, List.getElem?_eq_getElem hlt⟩
          obtain ⟨eb, eo, hel, hix, hcs⟩ := idx_at (P := Try.prog) (HTAT.out.below HB.out) 27 36 Try.underlying27 Try.sizeOf36 hx
          have HXA := Lib.hid ((HTED.out x (List.mem_of_getElem? hx)).below HB.out)
          obtain ⟨e0, e1, e2, e3, e4⟩ := edit_cells hcs
          have HBIG : Hid (∀ i, i < 4 → (Ln i).length ≤ 900000) := Lib.hid (fun i hi => by have := HZ.out i hi; have := HT10.out; omega)
          obtain ⟨E, hE⟩ : ∃ E, E = (applyS Ln x.log x.nx x.la x.ds x.fs).1 := ⟨_, rfl⟩
          obtain ⟨M, hM⟩ : ∃ M, M = (applyS Ln x.log x.nx x.la x.ds x.fs).2 := ⟨_, rfl⟩
          have HE := Lib.hid hE
          have HM2 := Lib.hid hM
          have HG : Hid ((∀ i, i < 4 → (M i).length ≤ 1000 + 100 * (n + 1)) ∧ ∀ i, i < 4 → ∀ f ∈ M i, WfF f) := Lib.hid (by rw [hM]; obtain ⟨h1, h2⟩ := applyS_good (log := x.log) (nx := x.nx) (la := x.la) (ds := x.ds) HZ.out HF.out HXA.out.wf; exact ⟨fun i hi => by have := h1 i hi; omega, h2⟩)
          clear hE hM hx hcs
          go_upto_region 11 with (go_at_call 11; refine (own_any aov Ln cv _ HV.out.lists (fun i hi => Nat.le_trans (HBIG.out i hi) (by omega))).mono ?_; rintro e w5 ⟨v, rfl, ⟨aol, cl, rfl, hatl⟩, hb5⟩; have HATL := Lib.hid hatl; have B5 := Lib.hid hb5; clear hb5 hatl)
          obtain ⟨W6, hW6⟩ : ∃ W6, W6 = w5.alloc (.cells #[.slice (aol 0) (Ln 0).length (cl 0), .slice (aol 1) (Ln 1).length (cl 1), .slice (aol 2) (Ln 2).length (cl 2), .slice (aol 3) (Ln 3).length (cl 3)] 26) := ⟨_, rfl⟩
          rw [← hW6]
          have HL6 : Hid (VerAt W6 w5.heap.size Ln aol cl) := Lib.hid (by rw [hW6]; exact VerAt.of (Var.new _ _ _) fun i hi => (HATL.out i hi).below (bal (Below.refl _ _) _))
          have HB6 : Hid (Below wr.heap.size wr W6) := Lib.hid (by rw [hW6]; exact bal B5.out _)
          clear hW6
          obtain ⟨lb, hlb⟩ : ∃ lb, lb = w5.heap.size := ⟨_, rfl⟩
          rw [← hlb] at HL6 ⊢
          clear hlb
          have hll : lb < W6.heap.size := HL6.out.var.lt
          have hel6 : eb < W6.heap.size := Nat.lt_of_lt_of_le hel HB6.out.size
          have a0 := HL6.out.cell (k := 0) (by decide)
          have a1 := HL6.out.cell (k := 1) (by decide)
          have a2 := HL6.out.cell (k := 2) (by decide)
          have a3 := HL6.out.cell (k := 3) (by decide)
          have g0 := kcell HB6.out hel e0
          have g1 := kcell HB6.out hel e1
          have g2 := kcell HB6.out hel e2
          have g3 := kcell HB6.out hel e3
          have g4 := kcell HB6.out hel e4
          have HXA6 := Lib.hid (HXA.out.below HB6.out)
          clear v0 v1 v2 v3 e0 e1 e2 e3 e4
          go_cut [9, 10] (fun s9 s10 wx => ∃ ab aoa ca, s9 = .pointer (some ⟨ab, 0, none⟩) ∧ s10 = .int .i64 E ∧ Hid (VerAt wx ab M aoa ca) ∧ W6.heap.size ≤ ab ∧ Hid (Below W6.heap.size W6 wx))
          case first =>
            go_region_held3 (fun wh => wh.cell? ⟨lb, 0, none⟩ = some (.slice (aol 0) (Ln 0).length (cl 0)) ∧ wh.cell? ⟨lb, 1, none⟩ = some (.slice (aol 1) (Ln 1).length (cl 1)) ∧ wh.cell? ⟨lb, 2, none⟩ = some (.slice (aol 2) (Ln 2).length (cl 2)) ∧ wh.cell? ⟨lb, 3, none⟩ = some (.slice (aol 3) (Ln 3).length (cl 3)) ∧ wh.cell? ⟨eb, eo + n * 5, none⟩ = some (.int .u64 x.log) ∧ wh.cell? ⟨eb, eo + n * 5 + 1, none⟩ = some (.int .u64 x.nx) ∧ wh.cell? ⟨eb, eo + n * 5 + 2, none⟩ = some (.int .u64 x.la) ∧ wh.cell? ⟨eb, eo + n * 5 + 3, none⟩ = some (.slice x.aod x.ds.length x.cd) ∧ wh.cell? ⟨eb, eo + n * 5 + 4, none⟩ = some (.slice x.aof x.fs.length x.cf) ∧ Below W6.heap.size W6 wh)
          ((go_split_ands; (repeat' apply And.intro) <;> first | (with_reducible assumption) | (refine kcell ?_ hll a0; (repeat (first | exact Below.refl _ _ | (with_reducible assumption) | refine bal ?_ _ | refine bset ?_ (by first | omega | (simp; done) | (simp; omega)) _ | refine bdr ?_ | refine bdrn ?_ _ | refine btr ?_ (by with_reducible assumption)))) | (refine kcell ?_ hll a1; (repeat (first | exact Below.refl _ _ | (with_reducible assumption) | refine bal ?_ _ | refine bset ?_ (by first | omega | (simp; done) | (simp; omega)) _ | refine bdr ?_ | refine bdrn ?_ _ | refine btr ?_ (by with_reducible assumption)))) | (refine kcell ?_ hll a2; (repeat (first | exact Below.refl _ _ | (with_reducible assumption) | refine bal ?_ _ | refine bset ?_ (by first | omega | (simp; done) | (simp; omega)) _ | refine bdr ?_ | refine bdrn ?_ _ | refine btr ?_ (by with_reducible assumption)))) | (refine kcell ?_ hll a3; (repeat (first | exact Below.refl _ _ | (with_reducible assumption) | refine bal ?_ _ | refine bset ?_ (by first | omega | (simp; done) | (simp; omega)) _ | refine bdr ?_ | refine bdrn ?_ _ | refine btr ?_ (by with_reducible assumption)))) | (refine kcell ?_ hel6 g0; (repeat (first | exact Below.refl _ _ | (with_reducible assumption) | refine bal ?_ _ | refine bset ?_ (by first | omega | (simp; done) | (simp; omega)) _ | refine bdr ?_ | refine bdrn ?_ _ | refine btr ?_ (by with_reducible assumption)))) | (refine kcell ?_ hel6 g1; (repeat (first | exact Below.refl _ _ | (with_reducible assumption) | refine bal ?_ _ | refine bset ?_ (by first | omega | (simp; done) | (simp; omega)) _ | refine bdr ?_ | refine bdrn ?_ _ | refine btr ?_ (by with_reducible assumption)))) | (refine kcell ?_ hel6 g2; (repeat (first | exact Below.refl _ _ | (with_reducible assumption) | refine bal ?_ _ | refine bset ?_ (by first | omega | (simp; done) | (simp; omega)) _ | refine bdr ?_ | refine bdrn ?_ _ | refine btr ?_ (by with_reducible assumption)))) | (refine kcell ?_ hel6 g3; (repeat (first | exact Below.refl _ _ | (with_reducible assumption) | refine bal ?_ _ | refine bset ?_ (by first | omega | (simp; done) | (simp; omega)) _ | refine bdr ?_ | refine bdrn ?_ _ | refine btr ?_ (by with_reducible assumption)))) | (refine kcell ?_ hel6 g4; (repeat (first | exact Below.refl _ _ | (with_reducible assumption) | refine bal ?_ _ | refine bset ?_ (by first | omega | (simp; done) | (simp; omega)) _ | refine bdr ?_ | refine bdrn ?_ _ | refine btr ?_ (by with_reducible assumption)))) | (repeat (first | exact Below.refl _ _ | (with_reducible assumption) | refine bal ?_ _ | refine bset ?_ (by first | omega | (simp; done) | (simp; omega)) _ | refine bdr ?_ | refine bdrn ?_ _ | refine btr ?_ (by with_reducible assumption)))))
          (first
            | (go_at_call 12; go_split_ands; refine (apply_any aol Ln cl x.log x.nx x.la x.aod x.cd x.ds x.aof x.cf x.fs _ (HL6.out.below ?_).lists (HXA6.out.below ?_).gone (HXA6.out.below ?_).laid HBIG.out HF.out).mono ?_; (repeat (first | exact Below.refl _ _ | (with_reducible assumption) | refine bal ?_ _ | refine bset ?_ (by first | omega | (simp; done) | (simp; omega)) _ | refine bdr ?_ | refine bdrn ?_ _ | refine btr ?_ (by with_reducible assumption))); (repeat (first | exact Below.refl _ _ | (with_reducible assumption) | refine bal ?_ _ | refine bset ?_ (by first | omega | (simp; done) | (simp; omega)) _ | refine bdr ?_ | refine bdrn ?_ _ | refine btr ?_ (by with_reducible assumption))); (repeat (first | exact Below.refl _ _ | (with_reducible assumption) | refine bal ?_ _ | refine bset ?_ (by first | omega | (simp; done) | (simp; omega)) _ | refine bdr ?_ | refine bdrn ?_ _ | refine btr ?_ (by with_reducible assumption))); rw [← HE.out, ← HM2.out]; rintro e w7 ⟨v, rfl, ⟨ao7, c7, rfl, hat7⟩, hb5⟩; have hz5 := hb5.size; (try simp at hz5); (try ((first | (have hT := (Var.newDrew W6 #[.slice none 0 0, .slice none 0 0, .slice none 0 0, .slice none 0 0] 26).below hb5) | (have hT := (Var.new W6 #[.slice none 0 0, .slice none 0 0, .slice none 0 0, .slice none 0 0] 26).below hb5) | (have hT := (Var.new W6 #[.slice none 0 0, .slice none 0 0, .slice none 0 0, .slice none 0 0] 26).drew.below hb5)); have tl := hT.lt; have t0 := hT.cell 0; have t1 := hT.cell 1; have t2 := hT.cell 2; have t3 := hT.cell 3; have y0 := hT.free 0; have y1 := hT.free 1; have y2 := hT.free 2; have y3 := hT.free 3; have HT := Lib.hid hT; clear hT))))
            all_goals (go_wp2_with fail; go_meet; refine ⟨_, ao7, c7, rfl, rfl, ?_, ?_, ?_⟩)
            all_goals first
              | exact Lib.hid (laid_ver HT.out hat7)
              | (with_reducible exact Lib.hid (VerAt.of (Var.new _ _ _) (fun i hi => (hat7 i hi).below (bal (Below.refl _ _) _))))
              | exact Nat.le_refl _
              | assumption
              | (refine Lib.hid ?_; (repeat (first | exact Below.refl _ _ | (with_reducible assumption) | refine bal ?_ _ | refine bset ?_ (by first | omega | (simp; done) | (simp; omega)) _ | refine bdr ?_ | refine bdrn ?_ _ | refine btr ?_ (by with_reducible assumption))))
          case rest =>
            obtain ⟨ab, aoa, ca, rfl, rfl, HA, hab, HBC⟩ := hcut
            obtain ⟨W7, hW7⟩ : ∃ W7, W7 = wc := ⟨_, rfl⟩
            subst hW7
            have HR7 := Lib.hid ((HR.out.below HB6.out).below HBC.out)
            have hlr7 : rb < W7.heap.size := HR7.out.var.lt
            have hel7 : eb < W7.heap.size := Nat.lt_of_lt_of_le hel6 HBC.out.size
            have k0 := kcell HBC.out hel6 g0
            have k1 := kcell HBC.out hel6 g1
            have k2 := kcell HBC.out hel6 g2
            have k3 := kcell HBC.out hel6 g3
            have k4 := kcell HBC.out hel6 g4
            have HXA7 := Lib.hid (HXA6.out.below HBC.out)
            clear a0 a1 a2 a3 g0 g1 g2 g3 g4 hel6
            have g0 := k0
            have g1 := k1
            have g2 := k2
            have g3 := k3
            have g4 := k4
            clear k0 k1 k2 k3 k4
            have a0 := HR7.out.cell (k := 0) (by decide)
            have a1 := HR7.out.cell (k := 1) (by decide)
            have a2 := HR7.out.cell (k := 2) (by decide)
            have a3 := HR7.out.cell (k := 3) (by decide)
            go_upto_region 12 with fail
            go_cut [11, 12] (fun s9 s10 wx => ∃ bb aob cb, s9 = .pointer (some ⟨bb, 0, none⟩) ∧ s10 = .int .i64 E ∧ Hid (VerAt wx bb M aob cb) ∧ W7.heap.size ≤ bb ∧ Hid (Below W7.heap.size W7 wx))
            case first =>
              go_region_held3 (fun wh => wh.cell? ⟨rb, 0, none⟩ = some (.slice (aor 0) (Ln 0).length (cr 0)) ∧ wh.cell? ⟨rb, 1, none⟩ = some (.slice (aor 1) (Ln 1).length (cr 1)) ∧ wh.cell? ⟨rb, 2, none⟩ = some (.slice (aor 2) (Ln 2).length (cr 2)) ∧ wh.cell? ⟨rb, 3, none⟩ = some (.slice (aor 3) (Ln 3).length (cr 3)) ∧ wh.cell? ⟨eb, eo + n * 5, none⟩ = some (.int .u64 x.log) ∧ wh.cell? ⟨eb, eo + n * 5 + 1, none⟩ = some (.int .u64 x.nx) ∧ wh.cell? ⟨eb, eo + n * 5 + 2, none⟩ = some (.int .u64 x.la) ∧ wh.cell? ⟨eb, eo + n * 5 + 3, none⟩ = some (.slice x.aod x.ds.length x.cd) ∧ wh.cell? ⟨eb, eo + n * 5 + 4, none⟩ = some (.slice x.aof x.fs.length x.cf) ∧ Below W7.heap.size W7 wh)
          ((go_split_ands; (repeat' apply And.intro) <;> first | (with_reducible assumption) | (refine kcell ?_ hlr7 a0; (repeat (first | exact Below.refl _ _ | (with_reducible assumption) | refine bal ?_ _ | refine bset ?_ (by first | omega | (simp; done) | (simp; omega)) _ | refine bdr ?_ | refine bdrn ?_ _ | refine btr ?_ (by with_reducible assumption)))) | (refine kcell ?_ hlr7 a1; (repeat (first | exact Below.refl _ _ | (with_reducible assumption) | refine bal ?_ _ | refine bset ?_ (by first | omega | (simp; done) | (simp; omega)) _ | refine bdr ?_ | refine bdrn ?_ _ | refine btr ?_ (by with_reducible assumption)))) | (refine kcell ?_ hlr7 a2; (repeat (first | exact Below.refl _ _ | (with_reducible assumption) | refine bal ?_ _ | refine bset ?_ (by first | omega | (simp; done) | (simp; omega)) _ | refine bdr ?_ | refine bdrn ?_ _ | refine btr ?_ (by with_reducible assumption)))) | (refine kcell ?_ hlr7 a3; (repeat (first | exact Below.refl _ _ | (with_reducible assumption) | refine bal ?_ _ | refine bset ?_ (by first | omega | (simp; done) | (simp; omega)) _ | refine bdr ?_ | refine bdrn ?_ _ | refine btr ?_ (by with_reducible assumption)))) | (refine kcell ?_ hel7 g0; (repeat (first | exact Below.refl _ _ | (with_reducible assumption) | refine bal ?_ _ | refine bset ?_ (by first | omega | (simp; done) | (simp; omega)) _ | refine bdr ?_ | refine bdrn ?_ _ | refine btr ?_ (by with_reducible assumption)))) | (refine kcell ?_ hel7 g1; (repeat (first | exact Below.refl _ _ | (with_reducible assumption) | refine bal ?_ _ | refine bset ?_ (by first | omega | (simp; done) | (simp; omega)) _ | refine bdr ?_ | refine bdrn ?_ _ | refine btr ?_ (by with_reducible assumption)))) | (refine kcell ?_ hel7 g2; (repeat (first | exact Below.refl _ _ | (with_reducible assumption) | refine bal ?_ _ | refine bset ?_ (by first | omega | (simp; done) | (simp; omega)) _ | refine bdr ?_ | refine bdrn ?_ _ | refine btr ?_ (by with_reducible assumption)))) | (refine kcell ?_ hel7 g3; (repeat (first | exact Below.refl _ _ | (with_reducible assumption) | refine bal ?_ _ | refine bset ?_ (by first | omega | (simp; done) | (simp; omega)) _ | refine bdr ?_ | refine bdrn ?_ _ | refine btr ?_ (by with_reducible assumption)))) | (refine kcell ?_ hel7 g4; (repeat (first | exact Below.refl _ _ | (with_reducible assumption) | refine bal ?_ _ | refine bset ?_ (by first | omega | (simp; done) | (simp; omega)) _ | refine bdr ?_ | refine bdrn ?_ _ | refine btr ?_ (by with_reducible assumption)))) | (repeat (first | exact Below.refl _ _ | (with_reducible assumption) | refine bal ?_ _ | refine bset ?_ (by first | omega | (simp; done) | (simp; omega)) _ | refine bdr ?_ | refine bdrn ?_ _ | refine btr ?_ (by with_reducible assumption)))))
          (first
            | (go_at_call 13; go_split_ands; refine (refApply_any aor Ln cr x.log x.nx x.la x.aod x.cd x.ds x.aof x.cf x.fs _ (HR7.out.below ?_).lists (HXA7.out.below ?_).gone (HXA7.out.below ?_).laid HBIG.out).mono ?_; (repeat (first | exact Below.refl _ _ | (with_reducible assumption) | refine bal ?_ _ | refine bset ?_ (by first | omega | (simp; done) | (simp; omega)) _ | refine bdr ?_ | refine bdrn ?_ _ | refine btr ?_ (by with_reducible assumption))); (repeat (first | exact Below.refl _ _ | (with_reducible assumption) | refine bal ?_ _ | refine bset ?_ (by first | omega | (simp; done) | (simp; omega)) _ | refine bdr ?_ | refine bdrn ?_ _ | refine btr ?_ (by with_reducible assumption))); (repeat (first | exact Below.refl _ _ | (with_reducible assumption) | refine bal ?_ _ | refine bset ?_ (by first | omega | (simp; done) | (simp; omega)) _ | refine bdr ?_ | refine bdrn ?_ _ | refine btr ?_ (by with_reducible assumption))); rw [← HE.out, ← HM2.out]; rintro e w7 ⟨v, rfl, ⟨ao7, c7, rfl, hat7⟩, hb5⟩; have hz5 := hb5.size; (try simp at hz5); (try ((first | (have hT := (Var.newDrew W7 #[.slice none 0 0, .slice none 0 0, .slice none 0 0, .slice none 0 0] 26).below hb5) | (have hT := (Var.new W7 #[.slice none 0 0, .slice none 0 0, .slice none 0 0, .slice none 0 0] 26).below hb5) | (have hT := (Var.new W7 #[.slice none 0 0, .slice none 0 0, .slice none 0 0, .slice none 0 0] 26).drew.below hb5)); have tl := hT.lt; have t0 := hT.cell 0; have t1 := hT.cell 1; have t2 := hT.cell 2; have t3 := hT.cell 3; have y0 := hT.free 0; have y1 := hT.free 1; have y2 := hT.free 2; have y3 := hT.free 3; have HT := Lib.hid hT; clear hT))))
              all_goals (go_wp2_with fail; go_meet; refine ⟨_, ao7, c7, rfl, rfl, ?_, ?_, ?_⟩)
              all_goals first
                | exact Lib.hid (laid_ver HT.out hat7)
                | (with_reducible exact Lib.hid (VerAt.of (Var.new _ _ _) (fun i hi => (hat7 i hi).below (bal (Below.refl _ _) _))))
                | exact Nat.le_refl _
                | assumption
                | (refine Lib.hid ?_; (repeat (first | exact Below.refl _ _ | (with_reducible assumption) | refine bal ?_ _ | refine bset ?_ (by first | omega | (simp; done) | (simp; omega)) _ | refine bdr ?_ | refine bdrn ?_ _ | refine btr ?_ (by with_reducible assumption))))
            case rest =>
              obtain ⟨bb, aob, cb, rfl, rfl, HBV, hbb, HBD⟩ := hcut
              obtain ⟨W8, hW8⟩ : ∃ W8, W8 = wc := ⟨_, rfl⟩
              subst hW8
              clear a0 a1 a2 a3 g0 g1 g2 g3 g4
              have HL8 := Lib.hid ((HL6.out.below HBC.out).below HBD.out)
              have HA8 := Lib.hid (HA.out.below HBD.out)
              have HV8 := Lib.hid (((HV.out.below HB6.out).below HBC.out).below HBD.out)
              have HR8 := Lib.hid (HR7.out.below HBD.out)
              have HBW8 : Hid (Below wr.heap.size wr W8) := Lib.hid (btr (btr HB6.out HBC.out) HBD.out)
              have hla8 : ab < W8.heap.size := HA8.out.var.lt
              have hlb8 : bb < W8.heap.size := HBV.out.var.lt
              have hll8 : lb < W8.heap.size := HL8.out.var.lt
              have hlv8 : w.heap.size < W8.heap.size := HV8.out.var.lt
              have hlr8 : rb < W8.heap.size := HR8.out.var.lt
              have HGM : Hid (∀ i, i < 4 → (M i).length ≤ 1000000) := Lib.hid (fun i hi => by have := HG.out.1 i hi; have := HT10.out; omega)
              have a0 := HA8.out.cell (k := 0) (by decide)
              have a1 := HA8.out.cell (k := 1) (by decide)
              have a2 := HA8.out.cell (k := 2) (by decide)
              have a3 := HA8.out.cell (k := 3) (by decide)
              have b0 := HBV.out.cell (k := 0) (by decide)
              have b1 := HBV.out.cell (k := 1) (by decide)
              have b2 := HBV.out.cell (k := 2) (by decide)
              have b3 := HBV.out.cell (k := 3) (by decide)
              have l0 := HL8.out.cell (k := 0) (by decide)
              have l1 := HL8.out.cell (k := 1) (by decide)
              have l2 := HL8.out.cell (k := 2) (by decide)
              have l3 := HL8.out.cell (k := 3) (by decide)
              have v0 := HV8.out.cell (k := 0) (by decide)
              have v1 := HV8.out.cell (k := 1) (by decide)
              have v2 := HV8.out.cell (k := 2) (by decide)
              have v3 := HV8.out.cell (k := 3) (by decide)
              go_upto_region 15 with (first
                | (go_at_call_of 14 (Value.agg #[.slice (aoa 0) (M 0).length (ca 0), .slice (aoa 1) (M 1).length (ca 1), .slice (aoa 2) (M 2).length (ca 2), .slice (aoa 3) (M 3).length (ca 3)]); refine (same_any aoa M ca aob M cb _ HA8.out.lists HBV.out.lists HGM.out).mono ?_; rw [sameV_refl]; rintro e w9 ⟨rfl, hb9⟩; have HB9 := Lib.hid hb9; have l0' := kcell hb9 hll8 l0; have l1' := kcell hb9 hll8 l1; have l2' := kcell hb9 hll8 l2; have l3' := kcell hb9 hll8 l3; have v0' := kcell hb9 hlv8 v0; have v1' := kcell hb9 hlv8 v1; have v2' := kcell hb9 hlv8 v2; have v3' := kcell hb9 hlv8 v3; clear hb9)
                | (go_at_call_of 14 (Value.agg #[.slice (aol 0) (Ln 0).length (cl 0), .slice (aol 1) (Ln 1).length (cl 1), .slice (aol 2) (Ln 2).length (cl 2), .slice (aol 3) (Ln 3).length (cl 3)]); refine (same_any aol Ln cl aov Ln cv _ (HL8.out.below HB9.out).lists (HV8.out.below HB9.out).lists (fun i hi => Nat.le_trans (HBIG.out i hi) (by omega))).mono ?_; rw [sameV_refl]; rintro e w10 ⟨rfl, hb10⟩; have HB10 := Lib.hid (btr HB9.out hb10); clear hb10))
              obtain ⟨W9, hW9⟩ : ∃ W9, W9 = w10 := ⟨_, rfl⟩
              subst hW9
              clear a0 a1 a2 a3 b0 b1 b2 b3 l0 l1 l2 l3 v0 v1 v2 v3 l0' l1' l2' l3' v0' v1' v2' v3'
              have HV9 := Lib.hid (HV8.out.below HB10.out)
              have HR9 := Lib.hid (HR8.out.below HB10.out)
              have hlv9 : w.heap.size < W9.heap.size := HV9.out.var.lt
              have hlr9 : rb < W9.heap.size := HR9.out.var.lt
              have v0 := HV9.out.cell (k := 0) (by decide)
              have v1 := HV9.out.cell (k := 1) (by decide)
              have v2 := HV9.out.cell (k := 2) (by decide)
              have v3 := HV9.out.cell (k := 3) (by decide)
              have r0 := HR9.out.cell (k := 0) (by decide)
              have r1 := HR9.out.cell (k := 1) (by decide)
              have r2 := HR9.out.cell (k := 2) (by decide)
              have r3 := HR9.out.cell (k := 3) (by decide)
              obtain ⟨CS, hCS⟩ : ∃ CS, CS = checkS Ln := ⟨_, rfl⟩
              have HCS := Lib.hid hCS
              clear hCS
              have hee : (E != E) = false := by simp
              have hcc : (CS != CS) = false := by simp
              go_cut [75] (fun s75 wx => s75 = .bool false ∧ Hid (Below W9.heap.size W9 wx))
              case first =>
                go_region_held3 (fun wh => wh.cell? ⟨w.heap.size, 0, none⟩ = some (.slice (aov 0) (Ln 0).length (cv 0)) ∧ wh.cell? ⟨w.heap.size, 1, none⟩ = some (.slice (aov 1) (Ln 1).length (cv 1)) ∧ wh.cell? ⟨w.heap.size, 2, none⟩ = some (.slice (aov 2) (Ln 2).length (cv 2)) ∧ wh.cell? ⟨w.heap.size, 3, none⟩ = some (.slice (aov 3) (Ln 3).length (cv 3)) ∧ wh.cell? ⟨rb, 0, none⟩ = some (.slice (aor 0) (Ln 0).length (cr 0)) ∧ wh.cell? ⟨rb, 1, none⟩ = some (.slice (aor 1) (Ln 1).length (cr 1)) ∧ wh.cell? ⟨rb, 2, none⟩ = some (.slice (aor 2) (Ln 2).length (cr 2)) ∧ wh.cell? ⟨rb, 3, none⟩ = some (.slice (aor 3) (Ln 3).length (cr 3)) ∧ Below W9.heap.size W9 wh)
          ((go_split_ands; (repeat' apply And.intro) <;> first | (with_reducible assumption) | (refine kcell ?_ hlv9 v0; (repeat (first | exact Below.refl _ _ | (with_reducible assumption) | refine bal ?_ _ | refine bset ?_ (by first | omega | (simp; done) | (simp; omega)) _ | refine bdr ?_ | refine bdrn ?_ _ | refine btr ?_ (by with_reducible assumption)))) | (refine kcell ?_ hlv9 v1; (repeat (first | exact Below.refl _ _ | (with_reducible assumption) | refine bal ?_ _ | refine bset ?_ (by first | omega | (simp; done) | (simp; omega)) _ | refine bdr ?_ | refine bdrn ?_ _ | refine btr ?_ (by with_reducible assumption)))) | (refine kcell ?_ hlv9 v2; (repeat (first | exact Below.refl _ _ | (with_reducible assumption) | refine bal ?_ _ | refine bset ?_ (by first | omega | (simp; done) | (simp; omega)) _ | refine bdr ?_ | refine bdrn ?_ _ | refine btr ?_ (by with_reducible assumption)))) | (refine kcell ?_ hlv9 v3; (repeat (first | exact Below.refl _ _ | (with_reducible assumption) | refine bal ?_ _ | refine bset ?_ (by first | omega | (simp; done) | (simp; omega)) _ | refine bdr ?_ | refine bdrn ?_ _ | refine btr ?_ (by with_reducible assumption)))) | (refine kcell ?_ hlr9 r0; (repeat (first | exact Below.refl _ _ | (with_reducible assumption) | refine bal ?_ _ | refine bset ?_ (by first | omega | (simp; done) | (simp; omega)) _ | refine bdr ?_ | refine bdrn ?_ _ | refine btr ?_ (by with_reducible assumption)))) | (refine kcell ?_ hlr9 r1; (repeat (first | exact Below.refl _ _ | (with_reducible assumption) | refine bal ?_ _ | refine bset ?_ (by first | omega | (simp; done) | (simp; omega)) _ | refine bdr ?_ | refine bdrn ?_ _ | refine btr ?_ (by with_reducible assumption)))) | (refine kcell ?_ hlr9 r2; (repeat (first | exact Below.refl _ _ | (with_reducible assumption) | refine bal ?_ _ | refine bset ?_ (by first | omega | (simp; done) | (simp; omega)) _ | refine bdr ?_ | refine bdrn ?_ _ | refine btr ?_ (by with_reducible assumption)))) | (refine kcell ?_ hlr9 r3; (repeat (first | exact Below.refl _ _ | (with_reducible assumption) | refine bal ?_ _ | refine bset ?_ (by first | omega | (simp; done) | (simp; omega)) _ | refine bdr ?_ | refine bdrn ?_ _ | refine btr ?_ (by with_reducible assumption)))) | (repeat (first | exact Below.refl _ _ | (with_reducible assumption) | refine bal ?_ _ | refine bset ?_ (by first | omega | (simp; done) | (simp; omega)) _ | refine bdr ?_ | refine bdrn ?_ _ | refine btr ?_ (by with_reducible assumption)))))
          (first
            | (go_at_call 15; go_split_ands; refine (check_any aov Ln cv _ (HV9.out.below ?_).lists (fun i hi => Nat.le_trans (HBIG.out i hi) (by omega)) HF.out).mono ?_; (repeat (first | exact Below.refl _ _ | (with_reducible assumption) | refine bal ?_ _ | refine bset ?_ (by first | omega | (simp; done) | (simp; omega)) _ | refine bdr ?_ | refine bdrn ?_ _ | refine btr ?_ (by with_reducible assumption))); rw [← HCS.out]; rintro e w12 ⟨rfl, hb12⟩)
            | (go_at_call 16; go_split_ands; refine (refCheck_any aor Ln cr _ (HR9.out.below ?_).lists (fun i hi => Nat.le_trans (HBIG.out i hi) (by omega))).mono ?_; (repeat (first | exact Below.refl _ _ | (with_reducible assumption) | refine bal ?_ _ | refine bset ?_ (by first | omega | (simp; done) | (simp; omega)) _ | refine bdr ?_ | refine bdrn ?_ _ | refine btr ?_ (by with_reducible assumption))); rw [← HCS.out]; rintro e w13 ⟨rfl, hb13⟩))
                all_goals (go_wp2_with fail; go_meet; refine ⟨rfl, Lib.hid ?_⟩; (repeat (first | exact Below.refl _ _ | (with_reducible assumption) | refine bal ?_ _ | refine bset ?_ (by first | omega | (simp; done) | (simp; omega)) _ | refine bdr ?_ | refine bdrn ?_ _ | refine btr ?_ (by with_reducible assumption))))
              case rest =>
                obtain ⟨rfl, HBE⟩ := hcut
                obtain ⟨W10, hW10⟩ : ∃ W10, W10 = wc := ⟨_, rfl⟩
                subst hW10
                clear v0 v1 v2 v3 r0 r1 r2 r3 hee hcc
                have HV10 := Lib.hid (HV9.out.below HBE.out)
                have HR10 := Lib.hid (HR9.out.below HBE.out)
                have HA10 := Lib.hid ((HA8.out.below HB10.out).below HBE.out)
                have HB10' := Lib.hid ((HBV.out.below HB10.out).below HBE.out)
                have HBW10 : Hid (Below w.heap.size w W10) := Lib.hid (Below.trans HB.out ((btr (btr HBW8.out HB10.out) HBE.out).mono (Nat.le_of_lt hlv)))
                by_cases hE0 : E = 0
                · have he0 : (E == 0) = true := by simp [hE0]
                  clear hE0
                  have a0 := HA10.out.cell (k := 0) (by decide)
                  have a1 := HA10.out.cell (k := 1) (by decide)
                  have a2 := HA10.out.cell (k := 2) (by decide)
                  have a3 := HA10.out.cell (k := 3) (by decide)
                  have b0 := HB10'.out.cell (k := 0) (by decide)
                  have b1 := HB10'.out.cell (k := 1) (by decide)
                  have b2 := HB10'.out.cell (k := 2) (by decide)
                  have b3 := HB10'.out.cell (k := 3) (by decide)
                  have p0 := HV10.out.var.free 0
                  have p1 := HV10.out.var.free 1
                  have p2 := HV10.out.var.free 2
                  have p3 := HV10.out.var.free 3
                  have q0 := HR10.out.var.free 0
                  have q1 := HR10.out.var.free 1
                  have q2 := HR10.out.var.free 2
                  have q3 := HR10.out.var.free 3
                  have s0 := HV10.out.cell (k := 0) (by decide)
                  have s1 := HV10.out.cell (k := 1) (by decide)
                  have s2 := HV10.out.cell (k := 2) (by decide)
                  have s3 := HV10.out.cell (k := 3) (by decide)
                  have u0 := HR10.out.cell (k := 0) (by decide)
                  have u1 := HR10.out.cell (k := 1) (by decide)
                  have u2 := HR10.out.cell (k := 2) (by decide)
                  have u3 := HR10.out.cell (k := 3) (by decide)
                  have hn1 : bb ≠ w.heap.size := by have := HBC.out.size; have := HB6.out.size; omega
                  have hn2 : rb ≠ w.heap.size := by omega
                  have hn3 : w.heap.size ≠ rb := by omega
                  have hl10 : w.heap.size < W10.heap.size := HV10.out.var.lt
                  have hm10 : rb < W10.heap.size := HR10.out.var.lt
                  have ht10 := HT10.out
                  have hbw := HBW10.out
                  have hvr : w.heap.size ≤ rb := Nat.le_of_lt hrv
                  have HTWO := two_laid' HV10.out HR10.out hn3 HA10.out.lists HB10'.out.lists
                  obtain ⟨HT1, HT2⟩ := HTWO
                  go_wp2
                  refine ⟨⟨n + 1, M, aoa, ca, aob, cb, ?le, ?num, ?ver, ?ref, Lib.hid HG.out.1, Lib.hid HG.out.2, ?below⟩, ?measure⟩
                  case le => exact hlt
                  case num => go_num
                  case ver => exact HT1
                  case ref => exact HT2
                  case below =>
                    refine Lib.hid ?_
                    exact (((((((hbw.setCell (p := ⟨w.heap.size, 0, none⟩) (Nat.le_refl _) _).setCell (p := ⟨w.heap.size, 1, none⟩) (Nat.le_refl _) _).setCell (p := ⟨w.heap.size, 2, none⟩) (Nat.le_refl _) _).setCell (p := ⟨w.heap.size, 3, none⟩) (Nat.le_refl _) _).setCell (p := ⟨rb, 0, none⟩) hvr _).setCell (p := ⟨rb, 1, none⟩) hvr _).setCell (p := ⟨rb, 2, none⟩) hvr _).setCell (p := ⟨rb, 3, none⟩) hvr _
                  case measure => simp [intOf]; omega
                · have he0 : (E == 0) = false := by simp [hE0]
                  clear hE0
                  have ht10 := HT10.out
                  go_wp2
                  go_roundw
                  case rel => exact ⟨n + 1, Ln, aov, cv, aor, cr, by omega, by go_num, HV10, HR10, Lib.hid (fun i hi => by have := HZ.out i hi; omega), HF, HBW10⟩
                  case measure => simp [intOf]; omega
        · obtain rfl : n = ts.length := by omega
          have r0 := HR.out.cell (k := 0) (by decide)
          have r1 := HR.out.cell (k := 1) (by decide)
          have r2 := HR.out.cell (k := 2) (by decide)
          have r3 := HR.out.cell (k := 3) (by decide)
          have HBIG : Hid (∀ i, i < 4 → (Ln i).length ≤ 900000) := Lib.hid (fun i hi => by have := HZ.out i hi; have := HT10.out; omega)
          obtain ⟨CS, hCS⟩ : ∃ CS, CS = checkS Ln := ⟨_, rfl⟩
          have HCS := Lib.hid hCS
          clear hCS
          have hcc : (CS == CS) = true := by simp
          go_wp2_with fail
          go_region_held3 (fun wh => wh.cell? ⟨w.heap.size, 0, none⟩ = some (.slice (aov 0) (Ln 0).length (cv 0)) ∧ wh.cell? ⟨w.heap.size, 1, none⟩ = some (.slice (aov 1) (Ln 1).length (cv 1)) ∧ wh.cell? ⟨w.heap.size, 2, none⟩ = some (.slice (aov 2) (Ln 2).length (cv 2)) ∧ wh.cell? ⟨w.heap.size, 3, none⟩ = some (.slice (aov 3) (Ln 3).length (cv 3)) ∧ wh.cell? ⟨rb, 0, none⟩ = some (.slice (aor 0) (Ln 0).length (cr 0)) ∧ wh.cell? ⟨rb, 1, none⟩ = some (.slice (aor 1) (Ln 1).length (cr 1)) ∧ wh.cell? ⟨rb, 2, none⟩ = some (.slice (aor 2) (Ln 2).length (cr 2)) ∧ wh.cell? ⟨rb, 3, none⟩ = some (.slice (aor 3) (Ln 3).length (cr 3)) ∧ Below wr.heap.size wr wh)
          ((go_split_ands; (repeat' apply And.intro) <;> first | (with_reducible assumption) | (refine kcell ?_ hlv v0; (repeat (first | exact Below.refl _ _ | (with_reducible assumption) | refine bal ?_ _ | refine bset ?_ (by first | omega | (simp; done) | (simp; omega)) _ | refine bdr ?_ | refine bdrn ?_ _ | refine btr ?_ (by with_reducible assumption)))) | (refine kcell ?_ hlv v1; (repeat (first | exact Below.refl _ _ | (with_reducible assumption) | refine bal ?_ _ | refine bset ?_ (by first | omega | (simp; done) | (simp; omega)) _ | refine bdr ?_ | refine bdrn ?_ _ | refine btr ?_ (by with_reducible assumption)))) | (refine kcell ?_ hlv v2; (repeat (first | exact Below.refl _ _ | (with_reducible assumption) | refine bal ?_ _ | refine bset ?_ (by first | omega | (simp; done) | (simp; omega)) _ | refine bdr ?_ | refine bdrn ?_ _ | refine btr ?_ (by with_reducible assumption)))) | (refine kcell ?_ hlv v3; (repeat (first | exact Below.refl _ _ | (with_reducible assumption) | refine bal ?_ _ | refine bset ?_ (by first | omega | (simp; done) | (simp; omega)) _ | refine bdr ?_ | refine bdrn ?_ _ | refine btr ?_ (by with_reducible assumption)))) | (refine kcell ?_ hlr r0; (repeat (first | exact Below.refl _ _ | (with_reducible assumption) | refine bal ?_ _ | refine bset ?_ (by first | omega | (simp; done) | (simp; omega)) _ | refine bdr ?_ | refine bdrn ?_ _ | refine btr ?_ (by with_reducible assumption)))) | (refine kcell ?_ hlr r1; (repeat (first | exact Below.refl _ _ | (with_reducible assumption) | refine bal ?_ _ | refine bset ?_ (by first | omega | (simp; done) | (simp; omega)) _ | refine bdr ?_ | refine bdrn ?_ _ | refine btr ?_ (by with_reducible assumption)))) | (refine kcell ?_ hlr r2; (repeat (first | exact Below.refl _ _ | (with_reducible assumption) | refine bal ?_ _ | refine bset ?_ (by first | omega | (simp; done) | (simp; omega)) _ | refine bdr ?_ | refine bdrn ?_ _ | refine btr ?_ (by with_reducible assumption)))) | (refine kcell ?_ hlr r3; (repeat (first | exact Below.refl _ _ | (with_reducible assumption) | refine bal ?_ _ | refine bset ?_ (by first | omega | (simp; done) | (simp; omega)) _ | refine bdr ?_ | refine bdrn ?_ _ | refine btr ?_ (by with_reducible assumption)))) | (repeat (first | exact Below.refl _ _ | (with_reducible assumption) | refine bal ?_ _ | refine bset ?_ (by first | omega | (simp; done) | (simp; omega)) _ | refine bdr ?_ | refine bdrn ?_ _ | refine btr ?_ (by with_reducible assumption)))))
          (first
            | (go_at_call 15; go_split_ands; refine (check_any aov Ln cv _ (HV.out.below ?_).lists (fun i hi => Nat.le_trans (HBIG.out i hi) (by omega)) HF.out).mono ?_; (repeat (first | exact Below.refl _ _ | (with_reducible assumption) | refine bal ?_ _ | refine bset ?_ (by first | omega | (simp; done) | (simp; omega)) _ | refine bdr ?_ | refine bdrn ?_ _ | refine btr ?_ (by with_reducible assumption))); rw [← HCS.out]; rintro e w12 ⟨rfl, hb12⟩)
            | (go_at_call 16; go_split_ands; refine (refCheck_any aor Ln cr _ (HR.out.below ?_).lists (fun i hi => Nat.le_trans (HBIG.out i hi) (by omega))).mono ?_; (repeat (first | exact Below.refl _ _ | (with_reducible assumption) | refine bal ?_ _ | refine bset ?_ (by first | omega | (simp; done) | (simp; omega)) _ | refine bdr ?_ | refine bdrn ?_ _ | refine btr ?_ (by with_reducible assumption))); rw [← HCS.out]; rintro e w13 ⟨rfl, hb13⟩))
          all_goals go_wp2
          all_goals go_ret
          all_goals refine ⟨rfl, Below.trans HB.out (Below.mono ?_ (Nat.le_of_lt hlv))⟩
          all_goals (repeat (first | exact Below.refl _ _ | (with_reducible assumption) | refine bal ?_ _ | refine bset ?_ (by first | omega | (simp; done) | (simp; omega)) _ | refine bdr ?_ | refine bdrn ?_ _ | refine btr ?_ (by with_reducible assumption)))

end Go.Proofs.Ytjeanhaadbkncaa
