/- The plain data of versions: files, edits; what is wrong with them. Nothing of the program is imported but the model's values. -/
import Derived.Lib.Bytealg
namespace Go.Proofs.Ytjeanhaadbkncaa

/-- A file: level, number, bytes, first key, last key. -/
structure Fl where
  (lv nu sz : Int)
  su : ByteArray
  (ss sk : Int)
  lu : ByteArray
  (ls lk : Int)

def encF (f : Fl) : List Value := [.int .i64 f.lv, .int .u64 f.nu, .int .i64 f.sz, .string f.su, .int .u64 f.ss, .int .i64 f.sk, .string f.lu, .int .u64 f.ls, .int .i64 f.lk]
theorem encF_len (f : Fl) : (encF f).length = 9 := rfl

/-- A file that is gone: level, number. -/
structure Gn where
  (lv nu : Int)

def encG (g : Gn) : List Value := [.int .i64 g.lv, .int .u64 g.nu]
theorem encG_len (g : Gn) : (encG g).length = 2 := rfl

/-- a < b, of texts. -/
def ltB (a b : ByteArray) : Bool := Op.bytesLess a.toList b.toList
def eqB (a b : ByteArray) : Bool := a.toList == b.toList
/-- -1, 0, 1. -/
def cmpB (a b : ByteArray) : Int := Lib.compareBytes a.data.toList b.data.toList
def cmpI (a b : Int) : Int := if a < b then -1 else if b < a then 1 else 0

def placeS (l n : Int) : Int := if l < 0 ∨ 4 ≤ l then 130 else if n < 1 ∨ 1099511627776 < n then 132 else 0
def keyS (u : ByteArray) (s k : Int) : Int := if 64 < u.size then 21 else if 72057594037927935 < s then 22 else if k ≠ 0 ∧ k ≠ 1 then 23 else 0
def cmpK (u : ByteArray) (s k : Int) (u' : ByteArray) (s' k' : Int) : Int :=
  if cmpB u u' ≠ 0 then cmpB u u' else if cmpI s' s ≠ 0 then cmpI s' s else cmpI k' k
def fileS (f : Fl) : Int :=
  if placeS f.lv f.nu ≠ 0 then placeS f.lv f.nu else if f.sz < 1 ∨ 2147483647 < f.sz then 132
  else if keyS f.su f.ss f.sk ≠ 0 then keyS f.su f.ss f.sk else if keyS f.lu f.ls f.lk ≠ 0 then keyS f.lu f.ls f.lk
  else if 0 < cmpK f.su f.ss f.sk f.lu f.ls f.lk then 132 else 0
def firstErr : List Int → Int
  | [] => 0
  | e :: r => if e ≠ 0 then e else firstErr r

end Go.Proofs.Ytjeanhaadbkncaa
