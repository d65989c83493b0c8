import Derived.Test.YthlppmhkdincgaaSha
import Derived.Laws.BitsAllLaws
import Derived.Laws.Shifts
namespace Go.Proofs.Ythlppmhkdincgaa.Sha
open Go
theorem ofInt_w (x : W) : BitVec.ofInt 32 (x.toNat : Int) = x := by rw [BitVec.ofInt_natCast, BitVec.ofNat_toNat, BitVec.setWidth_eq]
theorem wrap_nat (n : Nat) : IntKind.u32.wrap (n : Int) = ((BitVec.ofNat 32 n).toNat : Int) := by
  rw [IntKind.wrap_u32', BitVec.toNat_ofNat]; simp
theorem wrap_w (x : W) : IntKind.u32.wrap (x.toNat : Int) = (x.toNat : Int) := by rw [wrap_nat, BitVec.ofNat_toNat, BitVec.setWidth_eq]
theorem w_xor (x y : W) : bits .xor .u32 (x.toNat : Int) (y.toNat : Int) = ((x ^^^ y).toNat : Int) := by
  show IntKind.u32.wrap ((BitVec.ofInt 32 (x.toNat : Int) ^^^ BitVec.ofInt 32 (y.toNat : Int)).toNat : Int) = _
  rw [ofInt_w, ofInt_w, wrap_w]
theorem w_and (x y : W) : bits .and .u32 (x.toNat : Int) (y.toNat : Int) = ((x &&& y).toNat : Int) := by
  show IntKind.u32.wrap ((BitVec.ofInt 32 (x.toNat : Int) &&& BitVec.ofInt 32 (y.toNat : Int)).toNat : Int) = _
  rw [ofInt_w, ofInt_w, wrap_w]
theorem w_or (x y : W) : bits .or .u32 (x.toNat : Int) (y.toNat : Int) = ((x ||| y).toNat : Int) := by
  show IntKind.u32.wrap ((BitVec.ofInt 32 (x.toNat : Int) ||| BitVec.ofInt 32 (y.toNat : Int)).toNat : Int) = _
  rw [ofInt_w, ofInt_w, wrap_w]
theorem w_add (x y : W) : IntKind.u32.wrap ((x.toNat : Int) + (y.toNat : Int)) = ((x + y).toNat : Int) := by
  rw [← Int.natCast_add, wrap_nat, BitVec.toNat_ofNat, BitVec.toNat_add]
theorem w_shr (x : W) (k : Nat) : (x.toNat : Int) / (2 ^ k : Int) = ((x >>> k).toNat : Int) := by
  rw [BitVec.toNat_ushiftRight, Nat.shiftRight_eq_div_pow, Int.natCast_ediv]; simp
theorem w_shl (x : W) (k : Nat) : IntKind.u32.wrap ((x.toNat : Int) * (2 ^ k : Int)) = ((x <<< k).toNat : Int) := by
  have : (x.toNat : Int) * (2 ^ k : Int) = ((x.toNat * 2 ^ k : Nat) : Int) := by simp
  rw [this, wrap_nat, BitVec.toNat_ofNat, BitVec.toNat_shiftLeft, Nat.shiftLeft_eq]
theorem w_lit (n : Nat) : ((BitVec.ofNat 32 n).toNat : Int) = ((n % 4294967296 : Nat) : Int) := by rw [BitVec.toNat_ofNat]

theorem pick_eq (e f g : W) : g ^^^ (e &&& (f ^^^ g)) = (e &&& f) ^^^ (~~~e &&& g) := by
  apply BitVec.eq_of_getLsbD_eq
  intro i hi
  simp [hi]
  cases e[i] <;> cases f[i] <;> cases g[i] <;> rfl
theorem most_eq (a b c : W) : (a &&& b) ||| (c &&& (a ||| b)) = (a &&& b) ^^^ (a &&& c) ^^^ (b &&& c) := by
  apply BitVec.eq_of_getLsbD_eq
  intro i hi
  simp [hi]
  cases a[i] <;> cases b[i] <;> cases c[i] <;> rfl
theorem w_add' (x y : W) : ((x.toNat : Int) + (y.toNat : Int)) % 4294967296 = ((x + y).toNat : Int) := by rw [← IntKind.wrap_u32', w_add]
theorem w_shl' (x : W) (k : Nat) : ((x.toNat : Int) * (2 ^ k : Int)) % 4294967296 = ((x <<< k).toNat : Int) := by rw [← IntKind.wrap_u32', w_shl]
theorem split2 (a b : Nat) : a * 16777216 + b * 65536 = (a * 256 + b) * 65536 := by omega
theorem split3 (a b c : Nat) : (a * 256 + b) * 65536 + c * 256 = (a * 65536 + b * 256 + c) * 256 := by omega
theorem quad_nat (a b c d : Nat) (ha : a < 256) (hb : b < 256) (hc : c < 256) (hd : d < 256) :
    a * 16777216 ||| b * 65536 ||| c * 256 ||| d = a * 16777216 + b * 65536 + c * 256 + d := by
  have e1 := Nat.shiftLeft_add_eq_or_of_lt (i := 24) (b := b * 65536) (by rw [show (2 : Nat) ^ 24 = 16777216 from rfl]; omega) a
  have e2 := Nat.shiftLeft_add_eq_or_of_lt (i := 16) (b := c * 256) (by rw [show (2 : Nat) ^ 16 = 65536 from rfl]; omega) (a * 256 + b)
  have e3 := Nat.shiftLeft_add_eq_or_of_lt (i := 8) (b := d) (by rw [show (2 : Nat) ^ 8 = 256 from rfl]; omega) (a * 65536 + b * 256 + c)
  rw [Nat.shiftLeft_eq, show (2 : Nat) ^ 24 = 16777216 from rfl] at e1
  rw [Nat.shiftLeft_eq, show (2 : Nat) ^ 16 = 65536 from rfl] at e2
  rw [Nat.shiftLeft_eq, show (2 : Nat) ^ 8 = 256 from rfl] at e3
  rw [← e1, split2, ← e2, split3, ← e3]
theorem quad_or (a b c d : UInt8) : bits .or .u32 (bits .or .u32 (bits .or .u32 ((a.toNat : Int) % 4294967296 * 16777216 % 4294967296) ((b.toNat : Int) % 4294967296 * 65536 % 4294967296))
    ((c.toNat : Int) % 4294967296 * 256 % 4294967296)) ((d.toNat : Int) % 4294967296) = ((quad a b c d).toNat : Int) := by
  have ha := a.toNat_lt; have hb := b.toNat_lt; have hc := c.toNat_lt; have hd := d.toNat_lt
  unfold quad
  rw [BitVec.toNat_ofNat]
  generalize a.toNat = a at *; generalize b.toNat = b at *; generalize c.toNat = c at *; generalize d.toNat = d at *
  rw [show (a : Int) % 4294967296 * 16777216 % 4294967296 = ((a * 16777216 : Nat) : Int) by omega, show (b : Int) % 4294967296 * 65536 % 4294967296 = ((b * 65536 : Nat) : Int) by omega,
    show (c : Int) % 4294967296 * 256 % 4294967296 = ((c * 256 : Nat) : Int) by omega, show (d : Int) % 4294967296 = (d : Int) by omega]
  have hq := quad_nat a b c d ha hb hc hd
  have l1 : a * 16777216 ||| b * 65536 < 2 ^ 32 := Nat.or_lt_two_pow (by omega) (by omega)
  have l2 : a * 16777216 ||| b * 65536 ||| c * 256 < 2 ^ 32 := Nat.or_lt_two_pow l1 (by omega)
  rw [u32_or_nat _ _ (by omega) (by omega), u32_or_nat _ _ (by omega) (by omega), u32_or_nat _ _ (by omega) (by omega), hq]
  omega
theorem getD_str (s : ByteArray) (i : Nat) (h : i < s.size) : s.data.toList.getD i 0 = s[i] := by
  have h' : i < s.data.toList.length := by simpa using h
  rw [List.getD_eq_getElem?_getD, List.getElem?_eq_getElem h']
  rfl
theorem w_shr3 (x : W) : (x.toNat : Int) / (8 : Int) = ((x >>> 3).toNat : Int) := w_shr x 3
theorem w_shr10 (x : W) : (x.toNat : Int) / (1024 : Int) = ((x >>> 10).toNat : Int) := w_shr x 10
theorem w_add4 (a b c d : W) : ((a.toNat : Int) + b.toNat + c.toNat + d.toNat) % 4294967296 = ((a + b + c + d).toNat : Int) := by
  simp only [BitVec.toNat_add]; omega
theorem w_add5 (a b c d e : W) : ((a.toNat : Int) + b.toNat + c.toNat + d.toNat + e.toNat) % 4294967296 = ((a + b + c + d + e).toNat : Int) := by
  simp only [BitVec.toNat_add]; omega
theorem spread_sum (x16 x15 x7 x2 : W) :
    ((x16.toNat : Int) + bits .xor .u32 (bits .xor .u32 ((rotr x15 7).toNat : Int) ((rotr x15 18).toNat : Int)) ((x15.toNat : Int) / 8) + (x7.toNat : Int) +
      bits .xor .u32 (bits .xor .u32 ((rotr x2 17).toNat : Int) ((rotr x2 19).toNat : Int)) ((x2.toNat : Int) / 1024)) % 4294967296 = ((x16 + low x15 + x7 + high x2).toNat : Int) := by
  rw [w_shr3, w_shr10, w_xor, w_xor, w_xor, w_xor, w_add4]
  rfl
theorem or_comm' (x y : W) : x ||| y = y ||| x := BitVec.or_comm x y
end Go.Proofs.Ythlppmhkdincgaa.Sha
