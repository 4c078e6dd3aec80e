/- The reference's snapshots: Take, Seq, Release. -/
import Derived.Test.YteofjdiflpddbaaSnap
import Derived.Deep.RegionHeld3
namespace Go.Proofs.Yteofjdiflpddbaa
open Go.RowKit Go.Maps

def veil (o : Oper) : Oper := o
theorem veil_eq (o : Oper) : veil o = o := rfl
theorem step_append_at {P : Program} {ops : Array Oper} {o : Oper} {a : Act} {w : World} {K : Act → World → Prop} {Q : Exit → Act → World → Prop} {E : Prop} (hgd : o.guard = none) (s x : Operand) (t : TypeId)
    (ho : o.op = .call { callee := .builtin .append, args := #[s, x], argTypes := #[t, t] })
    {α : Type} (enc : α → List Value) (k : Nat) (henc : ∀ x, (enc x).length = k) (h1 : ∀ x, ∀ u ∈ enc x, u.oneCell' = true)
    (base : Nat) (e : TypeId) (z : Value) (bytes : Nat) (ht : P.underlying t = some (.slice e)) (hinfo : (P.info? e).map (fun i => (i.zero, i.size, i.bytes)) = some (some z, k, bytes)) (hz : z.cells.size = k) (hk : 0 < k)
    (v : Value) (xs : List α) (hs : a.eval s = v) (hown : w.ownsRow base e k v xs.length (xs.flatMap enc))
    (ad : Addr) (m c : Nat) (ys : List α) (hx : a.eval x = .slice (some ad) m c) (hm : m = ys.length) (hat : At w enc k (some ad) c ys)
    (hlen : (xs.length + ys.length) * bytes ≤ 140737488355328) (hmax : xs.length + ys.length ≤ maxLen) (hbase : base ≤ w.heap.size)
    (h : ∀ v' w', w'.ownsRow base e k v' (xs ++ ys).length ((xs ++ ys).flatMap enc) → w.grownBy w' v.ownBlock → K (a.put o.dst v') w') :
    if Region.wanted o (yielded ops a.tmps) = true then Oper.wp P o a w K Q else E := by
  have hw : Region.wanted o (yielded ops a.tmps) = true := by simp [Region.wanted, hgd]
  rw [if_pos hw]
  obtain ⟨i, hi, hz0, hz1, hz2⟩ := info_parts hinfo
  subst hm
  refine wp_append_own w s x t ho base e i z k bytes ht hi hz0 hz1 hz2 hz hk v _ _ hs hown ad ys.length c (ys.flatMap enc) hx (flat_length enc k henc ys) (hat.flat henc ad rfl) ?_ hmax hlen hbase ?_
  · intro u hu
    obtain ⟨y, _, hy⟩ := List.mem_flatMap.1 hu
    exact h1 y u hy
  · intro v' w' h2 h3 _
    refine h v' w' ?_ h3
    rw [List.flatMap_append, List.length_append]
    exact h2

def encS (p : Int × Int) : List Value := [.int .i64 p.1, .int .u64 p.2]
theorem encS_len (p : Int × Int) : (encS p).length = 2 := rfl
theorem encS_one : ∀ p, ∀ u ∈ encS p, u.oneCell' = true := by
  intro p u hu
  simp only [encS, List.mem_cons, List.not_mem_nil, or_false] at hu
  rcases hu with rfl | rfl <;> rfl
theorem Try.infoSnap : (Try.prog.info? 51).map (fun i => (i.zero, i.size, i.bytes)) = some (some (.agg #[.int .i64 0, .int .u64 0]), 2, 16) := by kernel_rfl
theorem snap_cells {w : World} {b o : Nat} {p : Int × Int} (h : ∀ j u, (encS p)[j]? = some u → w.cell? ⟨b, o + j, none⟩ = some u) : w.cell? ⟨b, o, none⟩ = some (.int .i64 p.1) ∧ w.cell? ⟨b, o + 1, none⟩ = some (.int .u64 p.2) := ⟨h 0 _ rfl, h 1 _ rfl⟩

theorem own_heap {w w' : World} {B e k n : Nat} {v : Value} {xs : List Value} (h : w.ownsRow B e k v n xs) (hh : ∀ g, some g = v.ownBlock → w'.heap[g]? = w.heap[g]?) : w'.ownsRow B e k v n xs := by
  obtain ⟨hl, h⟩ := h
  refine ⟨hl, ?_⟩
  rcases h with h | ⟨g, cap, cur, rfl, hb, hg, r⟩
  · exact .inl h
  · exact .inr ⟨g, cap, cur, rfl, hb, by rw [hh g rfl]; exact hg, r⟩
theorem own_mono {w : World} {base base' e k n : Nat} {v : Value} {xs : List Value} (hB : base' ≤ base) (h : w.ownsRow base e k v n xs) : w.ownsRow base' e k v n xs :=
  ⟨h.1, h.2.imp id fun ⟨g, cap, cur, a, b, r⟩ => ⟨g, cap, cur, a, Nat.le_trans hB b, r⟩⟩
theorem own_lt {w : World} {B e k n : Nat} {v : Value} {xs : List Value} (h : w.ownsRow B e k v n xs) {g : Nat} (hg : some g = v.ownBlock) : g < w.heap.size ∧ B ≤ g := by
  rcases h.2 with ⟨rfl, _⟩ | ⟨g', cap, cur, rfl, hb, hg', _⟩
  · cases hg
  · cases hg
    exact ⟨(Array.getElem?_eq_some_iff.1 hg').1, hb⟩
theorem own_ne_var {w : World} {B e k n b : Nat} {v : Value} {xs : List Value} {cs : Array Value} {T : TypeId} (h : w.ownsRow B e k v n xs) (hv : VarS w b cs T) (hT : e ≠ T) : some b ≠ v.ownBlock := by
  rcases h.2 with ⟨rfl, _⟩ | ⟨g, cap, cur, rfl, hb, hg, _⟩
  · intro h; cases h
  · intro h
    cases h
    unfold VarS at hv
    rw [hv] at hg
    cases hg
    exact hT rfl
theorem VarS.only {w w' : World} {b : Nat} {cs : Array Value} {T : TypeId} {may : Nat → Prop} (h : VarS w b cs T) (ho : Only may w w') (hn : ¬ may b) : VarS w' b cs T := (ho.block b h.lt hn).trans h
theorem VarS.below {w w' : World} {b : Nat} {cs : Array Value} {T : TypeId} (h : VarS w b cs T) (hb : Below w.heap.size w w') : VarS w' b cs T := (hb.block b h.lt).trans h
theorem kcell {B : Nat} {w w' : World} (hb : Below B w w') {a : Addr} {v : Value} (hlt : a.block < B) (h : w.cell? a = some v) : w'.cell? a = some v := (hb.cell hlt).trans h
theorem HeldM.only {w w' : World} {mb : Nat} {S : List (Int × Int)} {may : Nat → Prop} (h : HeldM w mb S) (ho : Only may w w') (hn : ¬ may mb) : HeldM w' mb S := by
  have hlt := h.lt
  obtain ⟨D, ⟨es, clock, hb, r⟩, h2, h3, h4⟩ := h
  exact ⟨D, ⟨es, clock, (ho.block mb hlt hn).trans hb, r⟩, h2, h3, h4⟩
theorem SetV.only {w w' : World} {sb mb : Nat} {S : List (Int × Int)} {tk : Int} {may : Nat → Prop} (h : SetV w sb mb S tk) (ho : Only may w w') (h1 : ¬ may sb) (h2 : ¬ may mb) : SetV w' sb mb S tk := ⟨h.var.only ho h1, h.held.only ho h2⟩

/-- The reference's set at block rb holds these, in a list of its own that is the value v; so many were taken. -/
structure RefV (w : World) (rb B : Nat) (S : List (Int × Int)) (tk : Int) (v : Value) : Prop where
  var : VarS w rb #[v, .int .i64 tk] 29
  own : w.ownsRow B 51 2 v S.length (S.flatMap encS)
theorem RefV.only {w w' : World} {rb B : Nat} {S : List (Int × Int)} {tk : Int} {v : Value} {may : Nat → Prop} (h : RefV w rb B S tk v) (ho : Only may w w') (h1 : ¬ may rb) (h2 : ∀ g, some g = v.ownBlock → ¬ may g) : RefV w' rb B S tk v :=
  ⟨h.var.only ho h1, own_heap h.own fun g hg => ho.block g (own_lt h.own hg).1 (h2 g hg)⟩
theorem RefV.ne {w : World} {rb B : Nat} {S : List (Int × Int)} {tk : Int} {v : Value} (h : RefV w rb B S tk v) : some rb ≠ v.ownBlock := own_ne_var h.own h.var (by decide)
def mayR (rb : Nat) (v : Value) (k : Nat) : Prop := k = rb ∨ some k = v.ownBlock
theorem cell_off {w : World} {b i j : Nat} {u v : Value} (h : w.cell? ⟨b, i, none⟩ = some v) (hne : i ≠ j) : (w.setCell ⟨b, j, none⟩ u).cell? ⟨b, i, none⟩ = some v := by
  go_simp

theorem refTakeFull_any (rb B : Nat) (S : List (Int × Int)) (tk seq : Int) (v : Value) (w : World) (hs : RefV w rb B S tk v) (hfull : 100 ≤ S.length) :
    Calls Try.prog 10 #[.pointer (some ⟨rb, 0, none⟩), .int .u64 seq] w fun e w' => e = .returned (.tuple #[.int .i64 0, .int .i64 201]) ∧ w' = w := by
  obtain ⟨ao, c, rfl, hat⟩ := at_of_own encS_len hs.own rfl
  have c0 := hs.var.cell 0
  have hf : (100 : Int) ≤ (S.length : Int) := by omega
  clear hs hat
  go_enter Try.func10, Try.ntmps10
  go_wp2
  go_ret2
  exact ⟨rfl, rfl⟩

theorem refTake_any (rb B : Nat) (S : List (Int × Int)) (tk seq : Int) (v : Value) (w : World) (hs : RefV w rb B S tk v) (hB : B ≤ w.heap.size) (hroom : S.length < 100) (h0 : 0 ≤ tk) (h1 : tk ≤ 140737488355328) :
    Calls Try.prog 10 #[.pointer (some ⟨rb, 0, none⟩), .int .u64 seq] w fun e w' => e = .returned (.tuple #[.int .i64 tk, .int .i64 0]) ∧ (∃ v', RefV w' rb B (S ++ [(tk, seq)]) (tk + 1) v') ∧ Only (mayR rb v) w w' := by
  obtain ⟨ao, c, rfl, hat⟩ := at_of_own encS_len hs.own rfl
  have c0 := hs.var.cell 0
  have c1 := hs.var.cell 1
  have f0 := hs.var.free 0
  have f1 := hs.var.free 1
  have hlt := hs.var.lt
  have hf : ¬ ((100 : Int) ≤ (S.length : Int)) := by omega
  have HS := Lib.hid hs
  have HB := Lib.hid hB
  have HLEN := Lib.hid hroom
  clear hs hat hroom
  go_enter Try.func10, Try.ntmps10
  go_wp2_with fail
  have hveil := veil_eq
  rw [← veil_eq ⟨some 16, _, _, _, _, _⟩]
  go_region_held3 (fun wh => wh.cell? ⟨rb, 1, none⟩ = some (.int .i64 tk))
    ((first | (with_reducible assumption) | (refine cell_off ?_ (by decide); assumption) | (refine kcell ?_ hlt c1; (repeat (first | exact Below.refl _ _ | (with_reducible assumption) | refine bal ?_ _ | refine bset ?_ (by first | omega | (simp; done) | (simp; omega)) _ | refine bdr ?_ | refine bdrn ?_ _ | refine btr ?_ (by with_reducible assumption))))))
    (first
      | (refine step_append_at (P := Try.prog) (o := ⟨some 24, _, _, _, _, _⟩) rfl (.tmp 16) (.tmp 23) 27 rfl encS 2 encS_len encS_one B 51 _ 16 Try.underlying27 Try.infoSnap rfl (by decide) (.slice ao S.length c) S (by simp [Act.eval]) (by first | exact own_heap (HS.out.own.alloc _) (fun _ _ => rfl) | exact (own_heap HS.out.own fun _ _ => rfl).alloc _) ⟨w.heap.size, 0, none⟩ 1 1 [(tk, seq)] (by simp [Act.eval]) rfl (by first | exact at_one _ encS 2 _ encS_len (tk, seq) _ rfl | exact (at_one _ encS 2 _ encS_len (tk, seq) _ rfl).below (bdr (Below.refl _ _))) (by simp; omega) (by simp [maxLen]; omega) (by have := HB.out; simp; omega) ?_; intro v2 w2 hown2 hgrow2; have hv2 := (HS.out.var.below (show Below w.heap.size w _ by (repeat (first | exact Below.refl _ _ | (with_reducible assumption) | refine bal ?_ _ | refine bset ?_ (by first | omega | (simp; done) | (simp; omega)) _ | refine bdr ?_ | refine bdrn ?_ _ | refine btr ?_ (by with_reducible assumption))))).grown hgrow2 HS.out.ne; have hc2 : w2.cell? ⟨rb, 1, none⟩ = some (.int .i64 tk) := hv2.cell 1; have hc0 : w2.cell? ⟨rb, 0, none⟩ = some (.slice ao S.length c) := hv2.cell 0; have hd0 := hv2.free 0; have hd1 := hv2.free 1; have hl2 := hv2.lt; obtain ⟨a2, d2, rfl, -⟩ := at_of_own encS_len hown2 rfl))
  all_goals go_wp2
  all_goals refine bodyPost_ret (v := .tuple #[.int .i64 tk, .int .i64 0]) (by simp [results, Try.results10, go_sem]) rfl ⟨rfl, ⟨.slice a2 (S.length + 1) d2, ?_, ?_⟩, ?_⟩
  all_goals first
    | (have h := (hv2.set 0 (.slice a2 (S.length + 1) d2)).set 1 (.int .i64 (tk + 1)); simpa using h)
    | (have hne := own_ne_var hown2 hv2 (by decide); rw [show S.length + 1 = (S ++ [(tk, seq)]).length by simp]; refine own_heap hown2 fun g hg => ?_; have hgr : g ≠ rb := fun e => hne (e ▸ hg); exact (Below.heap_setCell _ ⟨rb, 1, none⟩ _ g hgr).trans (Below.heap_setCell _ ⟨rb, 0, none⟩ _ g hgr))
    | (refine Only.setCell (Only.setCell (Only.trans (Only.of_below ?_) (Only.of_grown hgrow2 fun k hk _ => .inr hk.symm)) (.inl rfl) _) (.inl rfl) _; (repeat (first | exact Below.refl _ _ | (with_reducible assumption) | refine bal ?_ _ | refine bset ?_ (by first | omega | (simp; done) | (simp; omega)) _ | refine bdr ?_ | refine bdrn ?_ _ | refine btr ?_ (by with_reducible assumption))))

/-- The reference's numbers that are left. -/
theorem filter_len (S : List (Int × Int)) (id : Int) : ((S.filter fun p => p.1 != id).length = S.length) ↔ S.any (fun p => p.1 == id) = false := by
  rw [List.length_filter_eq_length_iff, List.any_eq_false]
  constructor
  · intro h p hp; have := h p hp; simpa using this
  · intro h p hp; have := h p hp; simpa using this
theorem filter_snoc (S : List (Int × Int)) (id : Int) (n : Nat) (x : Int × Int) (h : S[n]? = some x) : (S.take (n + 1)).filter (fun p => p.1 != id) = (S.take n).filter (fun p => p.1 != id) ++ (if (x.1 != id) = true then [x] else []) := by
  obtain ⟨hl, rfl⟩ := List.getElem?_eq_some_iff.1 h
  rw [List.take_succ_eq_append_getElem hl, List.filter_append]
  cases hb : (S[n].1 != id) <;> simp [hb]
theorem filter_le (S : List (Int × Int)) (id : Int) (n : Nat) : ((S.take n).filter (fun p => p.1 != id)).length ≤ n := Nat.le_trans (List.length_filter_le _ _) (by simp; omega)

theorem refRelease_any (rb B : Nat) (S : List (Int × Int)) (tk id : Int) (v : Value) (w : World) (hs : RefV w rb B S tk v) (hB : B ≤ w.heap.size) (hlen : S.length ≤ 1000000) :
    Calls Try.prog 14 #[.pointer (some ⟨rb, 0, none⟩), .int .i64 id] w fun e w' => e = .returned (.int .i64 (if S.any (fun p => p.1 == id) then 0 else 200)) ∧ (∃ v', RefV w' rb B (S.filter fun p => p.1 != id) tk v') ∧ Only (mayR rb v) w w' := by
  obtain ⟨ao, c, rfl, hat⟩ := at_of_own encS_len hs.own rfl
  have c0 := hs.var.cell 0
  have f0 := hs.var.free 0
  have hlt := hs.var.lt
  have HS := Lib.hid hs
  have HAT := Lib.hid hat
  have HB := Lib.hid hB
  obtain ⟨E, hE⟩ : ∃ E : Int, E = if S.any (fun p => p.1 == id) then 0 else 200 := ⟨_, rfl⟩
  rw [← hE]
  have HE := Lib.hid hE
  clear hs hat hE hB
  go_enter Try.func14, Try.ntmps14
  go_wp2_with fail
  go_loopw [5, 6] (fun v i wr => ∃ n : Nat, n ≤ S.length ∧ i = .int .i64 n ∧ wr.ownsRow w.heap.size 51 2 v ((S.take n).filter fun p => p.1 != id).length (((S.take n).filter fun p => p.1 != id).flatMap encS) ∧ Below w.heap.size w wr) (fun _ i _ => S.length - (intOf i).toNat)
  case atStart => exact ⟨0, Nat.zero_le _, rfl, World.ownsRow_nil _ _ _ _, Below.refl _ _⟩
  case round =>
    obtain ⟨n, hn, rfl, hown, hb⟩ := hrel
    have d0 := kcell hb hlt c0
    by_cases hlt2 : n < S.length
    · obtain ⟨x, hx⟩ : ∃ x, S[n]? = some x := ⟨_, List.getElem?_eq_getElem hlt2⟩
      obtain ⟨b, off, hbl, hix, hcs⟩ := idx_at (P := Try.prog) (HAT.out.below hb) 27 51 Try.underlying27 Try.sizeOf51 hx
      obtain ⟨e0, e1⟩ := snap_cells hcs
      have hso := filter_snoc S id n x hx
      have hle := filter_le S id n
      have HSO := Lib.hid hso
      obtain ⟨xi, xs⟩ := x
      dsimp only at e0 e1 HSO
      clear hx hcs hso
      cases hq : (xi != id)
      · have HQ := Lib.hid hq
        go_wp2
        go_roundw
        case rel => exact ⟨n + 1, by omega, by go_num, by rw [HSO.out, HQ.out]; simpa using hown, hb⟩
        case measure => simp [intOf]; omega
      · have HQ := Lib.hid hq
        go_wp2_with (at_builtin; refine wpList_append_at _ rfl (.tmp 26) (.tmp 34) 27 rfl encS 2 encS_len encS_one w.heap.size 51 _ 16 Try.underlying27 Try.infoSnap rfl (by decide) _ _ rfl (hown.alloc _) _ _ _ [(xi, xs)] rfl rfl (at_one _ encS 2 _ encS_len (xi, xs) _ rfl) (by simp only [List.length_cons, List.length_nil]; omega) (by simp only [List.length_cons, List.length_nil, maxLen]; omega) (Nat.le_trans hb.size (by simp)) ?_; intro v' w2 hown2 hgrow2)
        have hb2 := bgr (bal hb _) (hown.alloc _) hgrow2
        go_wp2
        go_roundw
        case rel => exact ⟨n + 1, by omega, by go_num, by rw [HSO.out, HQ.out]; exact hown2, hb2⟩
        case measure => simp [intOf]; omega
    · obtain rfl : n = S.length := by omega
      rw [List.take_length] at hown
      have hlr : rb < wr.heap.size := Nat.lt_of_lt_of_le hlt hb.size
      have g0 : wr.frozen? ⟨rb, 0, none⟩ = false := (hb.frozen (p := ⟨rb, 0, none⟩) hlt).trans f0
      have HV := Lib.hid (HS.out.var.below hb)
      have HO := Lib.hid hown
      have HNE := Lib.hid (own_ne_var hown HV.out (show (51 : Nat) ≠ 29 by decide))
      have hfl := filter_len S id
      obtain ⟨T, hT⟩ : ∃ T, T = S.filter fun p => p.1 != id := ⟨_, rfl⟩
      rw [← hT] at hfl hown HO
      have HTT := Lib.hid hT
      obtain ⟨a2, d2, rfl, -⟩ := at_of_own encS_len hown rfl
      clear hown
      cases ha : S.any (fun p => p.1 == id)
      · have hl : T.length = S.length := hfl.2 ha
        have hTS : T = S := by
          rw [hT, List.filter_eq_self]
          intro p hp
          rw [List.any_eq_false] at ha
          simpa using ha p hp
        have HTS := Lib.hid hTS
        have HEV : Hid (E = 200) := Lib.hid (by rw [HE.out, ha]; rfl)
        clear ha hTS hT hfl
        go_wp2
        refine bodyPost_ret (v := .int .i64 200) (by simp [results, Try.results14, go_sem]) rfl ⟨by rw [HEV.out], ⟨_, by rw [← HTT.out, HTS.out]; exact ⟨HV.out, own_heap HS.out.own fun g hg => hb.block g (own_lt HS.out.own hg).1⟩⟩, Only.of_below hb⟩
      · have hl : ¬ T.length = S.length := fun h => by rw [hfl.1 h] at ha; cases ha
        have hl' : ((T.length : Int) == (S.length : Int)) = false := by simp; omega
        have HEV : Hid (E = 0) := Lib.hid (by rw [HE.out, ha]; rfl)
        clear ha hT hfl
        go_wp2
        refine bodyPost_ret (v := .int .i64 0) (by simp [results, Try.results14, go_sem]) rfl ⟨by rw [HEV.out], ⟨.slice a2 T.length d2, ?ref⟩, ?only⟩
        case ref =>
          rw [← HTT.out]
          refine ⟨?_, ?_⟩
          · have h := HV.out.set 0 (.slice a2 T.length d2)
            simpa using h
          · refine own_heap (own_mono HB.out HO.out) fun g hg => ?_
            have hgr : g ≠ rb := fun e => HNE.out (e ▸ hg)
            exact Below.heap_setCell _ ⟨rb, 0, none⟩ _ g hgr
        case only => exact Only.setCell (Only.of_below hb) (.inl rfl) _

theorem seqS_first {S : List (Int × Int)} {id : Int} {n : Nat} {x : Int × Int} (hno : ∀ p, p < n → ∀ y, S[p]? = some y → (y.1 == id) = false) (hx : S[n]? = some x) (he : (x.1 == id) = true) : seqS S id = some x.2 := by
  unfold seqS
  obtain ⟨hl, rfl⟩ := List.getElem?_eq_some_iff.1 hx
  rw [(List.find?_eq_some_iff_getElem (p := fun p : Int × Int => p.1 == id)).2 ⟨he, n, hl, rfl, fun j hj => by simpa using hno j hj _ (List.getElem?_eq_getElem (by omega))⟩]
  rfl
theorem any_of {S : List (Int × Int)} {id : Int} {n : Nat} {x : Int × Int} (hx : S[n]? = some x) (he : (x.1 == id) = true) : S.any (fun p => p.1 == id) = true := List.any_eq_true.2 ⟨x, List.mem_of_getElem? hx, he⟩
theorem any_no {S : List (Int × Int)} {id : Int} (hno : ∀ p, p < S.length → ∀ y, S[p]? = some y → (y.1 == id) = false) : S.any (fun p => p.1 == id) = false := by
  rw [List.any_eq_false]
  intro y hy
  obtain ⟨p, hp, rfl⟩ := List.getElem_of_mem hy
  simpa using hno p hp _ (List.getElem?_eq_getElem hp)
theorem seqS_no {S : List (Int × Int)} {id : Int} (h : S.any (fun p => p.1 == id) = false) : seqS S id = none := by
  rw [← seqS_isSome] at h
  cases hq : seqS S id with
  | none => rfl
  | some x => rw [hq] at h; cases h

theorem refSeq_any (rb B : Nat) (S : List (Int × Int)) (tk id : Int) (v : Value) (w : World) (hs : RefV w rb B S tk v) (hlen : S.length ≤ 1000000) :
    Calls Try.prog 12 #[.pointer (some ⟨rb, 0, none⟩), .int .i64 id] w fun e w' => e = .returned (.tuple #[.int .u64 ((seqS S id).getD 0), .int .i64 (if S.any (fun p => p.1 == id) then 0 else 200)]) ∧ w' = w := by
  obtain ⟨ao, c, rfl, hat⟩ := at_of_own encS_len hs.own rfl
  have c0 := hs.var.cell 0
  have HAT := Lib.hid hat
  obtain ⟨E, hE⟩ : ∃ E : Int, E = if S.any (fun p => p.1 == id) then 0 else 200 := ⟨_, rfl⟩
  rw [← hE]
  have HE := Lib.hid hE
  clear hs hat hE
  go_enter Try.func12, Try.ntmps12
  go_wp2_with fail
  go_loopw [6] (fun i wr => ∃ n : Nat, n ≤ S.length ∧ i = .int .i64 n ∧ Hid (∀ p, p < n → ∀ y, S[p]? = some y → (y.1 == id) = false) ∧ wr = w) (fun i _ => S.length - (intOf i).toNat)
  case atStart => exact ⟨0, Nat.zero_le _, rfl, Lib.hid (fun p hp => by omega), rfl⟩
  case round =>
    obtain ⟨n, hn, rfl, hno, rfl⟩ := hrel
    by_cases hlt : n < S.length
    · obtain ⟨x, hx⟩ : ∃ x, S[n]? = some x := ⟨_, List.getElem?_eq_getElem hlt⟩
      obtain ⟨b, off, hbl, hix, hcs⟩ := idx_at (P := Try.prog) HAT.out 27 51 Try.underlying27 Try.sizeOf51 hx
      obtain ⟨e0, e1⟩ := snap_cells hcs
      have HX := Lib.hid hx
      clear hx hcs
      cases hq : (x.1 == id)
      · have HQ := Lib.hid hq
        go_wp2
        go_roundw
        case rel =>
          refine ⟨n + 1, by omega, by go_num, Lib.hid (fun p hp y hy => ?_), by trivial⟩
          by_cases hpn : p = n
          · subst hpn; rw [HX.out] at hy; cases hy; exact HQ.out
          · exact hno.out p (by omega) y hy
        case measure => simp [intOf]; omega
      · have HQ := Lib.hid hq
        go_wp2
        refine bodyPost_ret (v := .tuple #[.int .u64 x.2, .int .i64 0]) (by simp [results, Try.results12, go_sem]) rfl ⟨?_, rfl⟩
        rw [HE.out, seqS_first hno.out HX.out HQ.out, any_of HX.out HQ.out]; rfl
    · obtain rfl : n = S.length := by omega
      have HA := Lib.hid (any_no hno.out)
      go_wp2
      refine bodyPost_ret (v := .tuple #[.int .u64 0, .int .i64 200]) (by simp [results, Try.results12, go_sem]) rfl ⟨?_, rfl⟩
      rw [HE.out, HA.out, seqS_no HA.out]; rfl

end Go.Proofs.Yteofjdiflpddbaa
