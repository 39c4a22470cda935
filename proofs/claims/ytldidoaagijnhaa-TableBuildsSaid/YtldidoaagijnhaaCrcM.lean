/- CRC-32 as a plain function of words and bytes. -/
namespace Go.Proofs.Ytldidoaagijnhaa
set_option linter.unusedSimpArgs false
set_option linter.unusedVariables false
namespace Crc
def poly : BitVec 32 := 3988292384#32
def ent1 (n : BitVec 32) : BitVec 32 := if n &&& 1#32 = 0#32 then n >>> 1 else (n >>> 1) ^^^ poly
def entk : Nat → BitVec 32 → BitVec 32
  | 0, c => c
  | k + 1, c => ent1 (entk k c)
def entry (c : BitVec 32) : BitVec 32 := entk 8 c
/-- The byte of the table that a state and a byte choose. -/
def low (c : BitVec 32) (b : UInt8) : UInt8 := ⟨c.setWidth 8⟩ ^^^ b
def step (c : BitVec 32) (b : UInt8) : BitVec 32 := entry (BitVec.ofNat 32 (low c b).toNat) ^^^ c >>> 8
def run (c : BitVec 32) (l : List UInt8) : BitVec 32 := l.foldl step c
def on (c : BitVec 32) (l : List UInt8) : BitVec 32 := ~~~ (run (~~~c) l)
def of (l : List UInt8) : BitVec 32 := on 0#32 l

theorem run_snoc (c : BitVec 32) (l : List UInt8) (b : UInt8) : run c (l ++ [b]) = step (run c l) b := by simp [run]
theorem run_append (c : BitVec 32) (l m : List UInt8) : run c (l ++ m) = run (run c l) m := by simp [run]
theorem run_take (c : BitVec 32) (l : List UInt8) (k : Nat) (hk : k < l.length) : run c (l.take (k + 1)) = step (run c (l.take k)) (l.getD k 0) := by
  rw [List.take_add_one, List.getElem?_eq_getElem hk, Option.toList_some, run_snoc, List.getD_eq_getElem?_getD, List.getElem?_eq_getElem hk]; rfl
theorem on_split (s : List UInt8) (k : Nat) : on (of (s.take k)) (s.drop k) = of s := by
  unfold of on
  rw [BitVec.not_not, ← run_append, List.take_append_drop]
end Crc
end Go.Proofs.Ytldidoaagijnhaa
