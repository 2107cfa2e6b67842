import Derived.Test.YticdbkmekkbiiaaPvRow
set_option linter.unusedVariables false
set_option linter.unusedSimpArgs false
/-! Plain laws on what the written texts use. -/
namespace Go.Pv

theorem chkT {p : Prop} [Decidable p] (h : p) : chk p = some () := by simp [chk, h]
theorem sb {α β : Type} (a : α) (f : α → Option β) : (some a >>= f) = f a := rfl
theorem chkB {p : Prop} [Decidable p] {α : Type} {f : Unit → Option α} (h : p) : (chk p >>= f) = f () := by rw [chkT h]; rfl
theorem wrap64 {n : Int} (h0 : -9223372036854775808 ≤ n) (h1 : n < 9223372036854775808) : IntKind.i64.wrap n = n := by
  simp only [IntKind.wrap, IntKind.signed, IntKind.bits]
  simp
  omega

abbrev L (s : ByteArray) : List UInt8 := s.data.toList
theorem toList_L (s : ByteArray) : s.toList = L s := ByteArray.toList_eq ..
theorem size_L (s : ByteArray) : (L s).length = s.size := by simp [L]
theorem bt_L {s : ByteArray} {i : Nat} {c : UInt8} (h : (L s)[i]? = some c) : bt s (i : Int) = (c.toNat : Int) := by
  have : s.data[i]? = some c := by rw [← h]; simp [L]
  simp [bt, this]
def ints (l : List UInt8) : List Int := l.map fun c => (c.toNat : Int)
theorem ints_append (a b : List UInt8) : ints (a ++ b) = ints a ++ ints b := by simp [ints]
theorem bytesL_eq (s : ByteArray) : bytesL s = ints (L s) := rfl
theorem toB_ints (l : List UInt8) : toB (ints l) = l := by simp [toB, ints, Function.comp_def]
theorem strOf_ints (l : List UInt8) : strOf (ints l) = ⟨l.toArray⟩ := by rw [strOf_eq, toB_ints]
theorem L_strOf (l : List UInt8) : L (strOf (ints l)) = l := by rw [strOf_ints]
theorem L_mk (a : Array UInt8) : L ⟨a⟩ = a.toList := rfl
theorem L_append (a b : ByteArray) : L (a ++ b) = L a ++ L b := by simp [L, ByteArray.data_append]
theorem bytesOK_ints (l : List UInt8) : bytesOK (ints l) := by
  intro x hx
  obtain ⟨c, _, rfl⟩ := List.mem_map.1 hx
  have := c.toNat_lt
  omega
theorem ext_L {a b : ByteArray} (h : L a = L b) : a = b := by
  obtain ⟨⟨a⟩⟩ := a
  obtain ⟨⟨b⟩⟩ := b
  simp [L] at h
  rw [h]
theorem L_extract (s : ByteArray) (i j : Nat) : L (s.extract i j) = ((L s).drop i).take (j - i) := by
  simp only [L, ByteArray.data_extract, Array.toList_extract, List.extract_eq_take_drop]
theorem drop_cons {l : List UInt8} {i : Nat} (h : i < l.length) : l.drop i = l[i] :: l.drop (i + 1) := List.drop_eq_getElem_cons h

end Go.Pv
