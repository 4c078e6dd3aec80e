/- The order of texts. -/
import Derived.Test.YtjeanhaadbkncaaData
import Derived.Tactics
namespace Go.Proofs.Ytjeanhaadbkncaa

theorem u8_trich (a b : UInt8) : a < b ∨ a = b ∨ b < a := by
  rcases Nat.lt_trichotomy a.toNat b.toNat with h | h | h
  · exact .inl (UInt8.lt_iff_toNat_lt.2 h)
  · exact .inr (.inl (UInt8.toNat_inj.1 h))
  · exact .inr (.inr (UInt8.lt_iff_toNat_lt.2 h))
theorem u8_irrefl (a : UInt8) : ¬ a < a := fun h => Nat.lt_irrefl _ (UInt8.lt_iff_toNat_lt.1 h)
theorem u8_asymm {a b : UInt8} (h : a < b) : ¬ b < a := fun h' => Nat.lt_asymm (UInt8.lt_iff_toNat_lt.1 h) (UInt8.lt_iff_toNat_lt.1 h')
theorem u8_trans {a b c : UInt8} (h : a < b) (h' : b < c) : a < c := UInt8.lt_iff_toNat_lt.2 (Nat.lt_trans (UInt8.lt_iff_toNat_lt.1 h) (UInt8.lt_iff_toNat_lt.1 h'))

theorem less_irrefl : ∀ x : List UInt8, Op.bytesLess x x = false
  | [] => rfl
  | a :: x => by simp [Op.bytesLess, less_irrefl x]

theorem less_trich : ∀ x y : List UInt8, Op.bytesLess x y = true ∨ x = y ∨ Op.bytesLess y x = true
  | [], [] => .inr (.inl rfl)
  | [], b :: y => .inl rfl
  | a :: x, [] => .inr (.inr rfl)
  | a :: x, b :: y => by
    rcases u8_trich a b with h | rfl | h
    · exact .inl (by simp [Op.bytesLess, h])
    · rcases less_trich x y with h | rfl | h
      · exact .inl (by simp [Op.bytesLess, h])
      · exact .inr (.inl rfl)
      · exact .inr (.inr (by simp [Op.bytesLess, h]))
    · exact .inr (.inr (by simp [Op.bytesLess, h]))

theorem less_trans : ∀ x y z : List UInt8, Op.bytesLess x y = true → Op.bytesLess y z = true → Op.bytesLess x z = true
  | _, [], _, h, _ => by simp [Op.bytesLess] at h
  | _, _ :: _, [], _, h => by simp [Op.bytesLess] at h
  | [], b :: y, c :: z, _, _ => rfl
  | a :: x, b :: y, c :: z, h, h' => by
    simp only [Op.bytesLess, Bool.or_eq_true, Bool.and_eq_true, decide_eq_true_eq, beq_iff_eq] at h h' ⊢
    rcases h with h | ⟨rfl, h⟩
    · rcases h' with h' | ⟨rfl, h'⟩
      · exact .inl (u8_trans h h')
      · exact .inl h
    · rcases h' with h' | ⟨rfl, h'⟩
      · exact .inl h'
      · exact .inr ⟨rfl, less_trans x y z h h'⟩

theorem cmp_less : ∀ x y : List UInt8, Lib.compareBytes x y = if Op.bytesLess x y then -1 else if Op.bytesLess y x then 1 else 0
  | [], [] => rfl
  | [], b :: y => rfl
  | a :: x, [] => rfl
  | a :: x, b :: y => by
    have ih := cmp_less x y
    unfold Lib.compareBytes
    rcases u8_trich a b with h | rfl | h
    · simp [Op.bytesLess, h]
    · simp [Op.bytesLess, ih]
    · have h1 := u8_asymm h
      have h2 : a ≠ b := fun e => u8_irrefl b (e ▸ h)
      simp [Op.bytesLess, h, h1, h2]

theorem ltB_irrefl (a : ByteArray) : ltB a a = false := less_irrefl _
theorem ltB_trans {a b c : ByteArray} (h : ltB a b = true) (h' : ltB b c = true) : ltB a c = true := less_trans _ _ _ h h'
theorem ltB_asymm {a b : ByteArray} (h : ltB a b = true) : ltB b a = false := by
  cases h' : ltB b a
  · rfl
  · have := ltB_trans h h'
    rw [ltB_irrefl] at this
    cases this
theorem toList_inj {a b : ByteArray} (h : a.toList = b.toList) : a = b := by
  rw [ByteArray.toList_eq, ByteArray.toList_eq] at h
  exact ByteArray.ext (Array.toList_inj.1 h)
theorem ltB_trich (a b : ByteArray) : ltB a b = true ∨ a = b ∨ ltB b a = true := by
  rcases less_trich a.toList b.toList with h | h | h
  · exact .inl h
  · exact .inr (.inl (toList_inj h))
  · exact .inr (.inr h)
theorem eqB_iff (a b : ByteArray) : eqB a b = true ↔ a = b := by
  unfold eqB
  rw [beq_iff_eq]
  exact ⟨toList_inj, fun h => h ▸ rfl⟩
theorem cmpB_eq (a b : ByteArray) : cmpB a b = if ltB a b then -1 else if ltB b a then 1 else 0 := by
  unfold cmpB ltB
  rw [← ByteArray.toList_eq, ← ByteArray.toList_eq]
  exact cmp_less _ _
theorem cmpB_zero (a b : ByteArray) : cmpB a b = 0 ↔ a = b := by
  rw [cmpB_eq]
  rcases ltB_trich a b with h | rfl | h
  · simp only [h, if_true]
    constructor
    · intro h; omega
    · rintro rfl; rw [ltB_irrefl] at h; cases h
  · simp [ltB_irrefl]
  · simp only [h, ltB_asymm h, if_true, Bool.false_eq_true, if_false]
    constructor
    · intro h; omega
    · rintro rfl; rw [ltB_irrefl] at h; cases h
theorem cmpB_neg (a b : ByteArray) : cmpB a b < 0 ↔ ltB a b = true := by
  rw [cmpB_eq]
  cases h : ltB a b
  · simp
    split <;> omega
  · simp
theorem cmpB_pos (a b : ByteArray) : 0 < cmpB a b ↔ ltB b a = true := by
  rw [cmpB_eq]
  cases h : ltB a b
  · cases h' : ltB b a <;> simp
  · simp [ltB_asymm h]
/-- a ≤ b. -/
def leB (a b : ByteArray) : Bool := ltB a b || eqB a b
theorem leB_not (a b : ByteArray) : leB a b = !(ltB b a) := by
  unfold leB
  rcases ltB_trich a b with h | rfl | h
  · simp [h, ltB_asymm h]
  · simp [ltB_irrefl, (eqB_iff a a).2 rfl]
  · have : eqB a b = false := by
      cases h' : eqB a b
      · rfl
      · rw [(eqB_iff a b).1 h', ltB_irrefl] at h
        cases h
    simp [h, ltB_asymm h, this]

theorem cmpI_swap (a b : Int) : cmpI b a = - cmpI a b := by unfold cmpI; (repeat' split) <;> omega
theorem cmpB_swap (a b : ByteArray) : cmpB b a = - cmpB a b := by
  rw [cmpB_eq, cmpB_eq]
  rcases ltB_trich a b with h | rfl | h
  · simp [h, ltB_asymm h]
  · simp [ltB_irrefl]
  · simp [h, ltB_asymm h]
theorem cmpK_swap (u : ByteArray) (s k : Int) (u' : ByteArray) (s' k' : Int) : cmpK u' s' k' u s k = - cmpK u s k u' s' k' := by
  unfold cmpK
  rw [cmpB_swap u u', cmpI_swap s' s, cmpI_swap k' k]
  by_cases h : cmpB u u' = 0 <;> by_cases h' : cmpI s' s = 0 <;> simp [h, h']

/-- a file of users su to lu has one from 'fr' to 'to'. -/
def hasU (su lu fr to : ByteArray) : Bool := leB fr to && leB su lu && leB su to && !(ltB lu fr)

/-- max(a, b), min(a, b). -/
def maxB (a b : ByteArray) : ByteArray := if ltB a b then b else a
def minB (a b : ByteArray) : ByteArray := if leB a b then a else b

theorem ltB_of_not {a b c : ByteArray} (h : ltB a b = false) (h' : ltB b c = false) : ltB a c = false := by
  cases hc : ltB a c
  · rfl
  · rcases ltB_trich a b with h1 | rfl | h1
    · rw [h] at h1; cases h1
    · rw [h'] at hc; cases hc
    · have := ltB_trans h1 hc
      rw [h'] at this
      cases this
theorem has_maxmin (su lu fr to : ByteArray) : leB (maxB fr su) (minB to lu) = hasU su lu fr to := by
  unfold hasU maxB minB
  simp only [leB_not]
  cases h1 : ltB fr su <;> cases h2 : ltB lu to <;> simp only [Bool.not_false, Bool.not_true, Bool.false_eq_true, if_true, if_false]
  · cases h3 : ltB to fr <;> simp
    have a1 := ltB_of_not h3 h1
    have a2 := ltB_of_not h2 h3
    have a3 := ltB_of_not h2 a1
    simp [a1, a2, a3]
  · cases h3 : ltB lu fr <;> simp
    have a1 := ltB_of_not h3 h1
    have a2 := ltB_of_not (ltB_asymm h2) h3
    have a3 := ltB_of_not (ltB_asymm h2) a1
    simp [a1, a2, a3]
  · cases h3 : ltB to su <;> simp
    have a1 := ltB_of_not h3 (ltB_asymm h1)
    have a2 := ltB_of_not h2 h3
    have a3 := ltB_of_not h2 a1
    simp [a1, a2, a3]
  · cases h3 : ltB lu su <;> simp
    have a1 := ltB_of_not h3 (ltB_asymm h1)
    have a2 := ltB_of_not (ltB_asymm h2) h3
    have a3 := ltB_of_not (ltB_asymm h2) a1
    simp [a1, a2, a3]

theorem run_max_B {P : Program} (ts : Array TypeId) (t : TypeId) (x y : ByteArray) (w : World) : (Builtin.max_ ts t #[.string x, .string y]).run P w = .ok (.string (maxB x y)) w := by
  cases h : Op.bytesLess x.toList y.toList <;> simp [Builtin.max_, Builtin.max2, Op.stringOp, asBool, maxB, ltB, h]
theorem run_min_B {P : Program} (ts : Array TypeId) (t : TypeId) (x y : ByteArray) (w : World) : (Builtin.min_ ts t #[.string x, .string y]).run P w = .ok (.string (minB x y)) w := by
  cases h : Op.bytesLess x.toList y.toList <;> cases h' : (x.toList == y.toList) <;> simp [Builtin.min_, Builtin.min2, Op.stringOp, asBool, minB, leB, ltB, eqB, h, h']

end Go.Proofs.Ytjeanhaadbkncaa
