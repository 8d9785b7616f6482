import Derived.Test.YtndcbbhfhcjadaaDoorRows
import Derived.WalkKit
import Derived.WalkSpells
import Derived.WalkLawsBesides
import Derived.Deep.Draws
import Derived.Lib.Hide
import Derived.BigQuiet
import Derived.Deep.QuietTactic
namespace Go.Proofs.YtndcbbhfhcjadaaDoor
open Go.RowKit

/-- A digit; a byte of which names are begun. -/
def dig (c : Nat) : Bool := decide (48 ≤ c) && decide (c ≤ 57)
def ltr (c : Nat) : Bool := (decide (97 ≤ c) && decide (c ≤ 122)) || (decide (65 ≤ c) && decide (c ≤ 90)) || decide (c = 95)

theorem dec_cast (a b : Nat) : decide ((a : Int) ≤ (b : Int)) = decide (a ≤ b) := by rw [Bool.eq_iff_iff]; simp

theorem refDigit (c : Nat) (w : World) : Calls Tryd.prog 34 #[.int .u8 (c : Int)] w fun e w' => e = .returned (.bool (dig c)) ∧ w' = w := by
  go_enter Tryd.func34, Tryd.ntmps34
  go_wp2 <;> (go_ret; refine ⟨?_, rfl⟩; unfold dig; refine congrArg Ending.returned (congrArg Value.bool ?_); rw [Bool.eq_iff_iff]; simp; try omega)
theorem refLetter (c : Nat) (w : World) : Calls Tryd.prog 33 #[.int .u8 (c : Int)] w fun e w' => e = .returned (.bool (ltr c)) ∧ w' = w := by
  go_enter Tryd.func33, Tryd.ntmps33
  go_wp2 <;> (go_ret; refine ⟨?_, rfl⟩; unfold ltr; refine congrArg Ending.returned (congrArg Value.bool ?_); rw [Bool.eq_iff_iff]; simp; try omega)
theorem lexDigit (c : Nat) (w : World) : Calls Tryd.prog 30 #[.int .u8 (c : Int)] w fun e w' => e = .returned (.bool (dig c)) ∧ w' = w := by
  go_enter Tryd.func30, Tryd.ntmps30
  go_wp2 <;> (go_ret; refine ⟨?_, rfl⟩; unfold dig; refine congrArg Ending.returned (congrArg Value.bool ?_); rw [Bool.eq_iff_iff]; simp; try omega)

def ltr' (b : Int) (c : Nat) : Bool := (decide (97 ≤ b) && decide (b ≤ 122)) || decide (c = 95)
set_option maxRecDepth 100000 in
theorem ltr_low : ∀ c : Fin 256, ltr' (bits BinOp.or IntKind.u8 (c.val : Int) 32) c.val = ltr c.val := by decide
theorem lexLetter (c : Nat) (hc : c < 256) (w : World) : Calls Tryd.prog 27 #[.int .u8 (c : Int)] w fun e w' => e = .returned (.bool (ltr c)) ∧ w' = w := by
  have hl := ltr_low ⟨c, hc⟩
  simp only at hl
  have HL := Lib.hid hl
  clear hl
  go_enter Tryd.func27, Tryd.ntmps27
  go_wp2 <;> (go_ret; refine ⟨?_, rfl⟩; refine congrArg Ending.returned (congrArg Value.bool ?_); rw [← HL.out]; unfold ltr'; generalize bits BinOp.or IntKind.u8 (c : Int) 32 = b at *; rw [Bool.eq_iff_iff]; simp; try omega)

/-- A mishap; a token. -/
def mish (code : Nat) (i : Nat) : Value := .agg #[.int .i64 code, .int .i64 i]
def tok (k : Nat) (s : ByteArray) (n i : Nat) : Value := .agg #[.int .i64 k, .string s, .int .i64 n, .int .i64 i]

theorem refBad (x y : Nat) (w : World) : Calls Tryd.prog 17 #[.int .i64 (x : Int), .int .i64 (y : Int)] w fun e w' => e = .returned (mish x y) ∧ Below w.heap.size w w' := by
  go_enter Tryd.func17, Tryd.ntmps17
  go_wp2
  refine bodyPost_ret (v := mish x y) (by simp [results, Tryd.results17, go_sem]; rfl) rfl ⟨rfl, ?_⟩
  exact (Below.refl _ _).alloc (Nat.le_refl _) _

/-- The reserved words. -/
def names : List (List UInt8) := [[97, 99, 116, 105, 118, 101], [97, 115, 115, 101, 114, 116], [97, 116, 111, 109, 105, 99], [98, 105, 116], [98, 111, 111, 108], [98, 114, 101, 97, 107], [98, 121, 116, 101], [99, 104, 97, 110], [100, 95, 115, 116, 101, 112], [100, 111], [101, 108, 115, 101], [101, 109, 112, 116, 121], [101, 118, 97, 108], [102, 97, 108, 115, 101], [102, 105], [102, 117, 108, 108], [103, 111, 116, 111], [105, 102], [105, 110, 105, 116], [105, 110, 108, 105, 110, 101], [105, 110, 116], [108, 101, 110], [108, 116, 108], [109, 116, 121, 112, 101], [110, 101, 109, 112, 116, 121], [110, 101, 118, 101, 114], [110, 102, 117, 108, 108], [110, 112, 95], [111, 100], [111, 102], [112, 105, 100], [112, 114, 105, 110, 116, 102], [112, 114, 111, 99, 116, 121, 112, 101], [114, 117, 110], [115, 104, 111, 114, 116], [115, 107, 105, 112], [116, 105, 109, 101, 111, 117, 116], [116, 114, 117, 101], [116, 121, 112, 101, 100, 101, 102], [117, 110, 108, 101, 115, 115], [95], [95, 112, 105, 100], [95, 110, 114, 95, 112, 114]]
def twos : List (List UInt8) := [[58, 58], [33, 33], [63, 63], [61, 61], [33, 61], [60, 61], [62, 61], [60, 60], [62, 62], [38, 38], [124, 124], [43, 43], [45, 45], [45, 62]]
def ones : List Nat := [123, 125, 40, 41, 91, 93, 59, 44, 58, 46, 33, 63, 61, 60, 62, 43, 45, 42, 47, 37, 38, 124, 94, 126, 64]

def isIn (l : List (List UInt8)) (s : ByteArray) : Bool := l.any fun x => s.toList == x
def isOne (c : Nat) : Bool := ones.any fun x => c == x

theorem refTwo (s : ByteArray) (w : World) : Calls Tryd.prog 22 #[.string s] w fun e w' => e = .returned (.bool (isIn twos s)) ∧ w' = w := by
  go_enter Tryd.func22, Tryd.ntmps22
  go_wp2 <;> (go_ret; refine ⟨congrArg Ending.returned (congrArg Value.bool ?_), rfl⟩; simp_all [isIn, twos])
theorem refOne (c : Nat) (w : World) : Calls Tryd.prog 23 #[.int .u8 (c : Int)] w fun e w' => e = .returned (.bool (isOne c)) ∧ w' = w := by
  go_enter Tryd.func23, Tryd.ntmps23
  go_wp2 <;> (go_ret; refine ⟨congrArg Ending.returned (congrArg Value.bool ?_), rfl⟩; simp_all [isOne, ones]; try omega)
end Go.Proofs.YtndcbbhfhcjadaaDoor
