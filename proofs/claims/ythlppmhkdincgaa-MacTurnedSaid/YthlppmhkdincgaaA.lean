/- The leaves: a word turned to the right, four bytes as a word, the first words and the constants: what they answer. -/
import Derived.Test.YthlppmhkdincgaaU32
import Derived.Test.YthlppmhkdincgaaChecked
import Derived.WalkKit
import Derived.WalkSpells
import Derived.BigQuiet
import Derived.Lib.Hide
import Derived.Deep.QuietTactic
namespace Go.Proofs.Ythlppmhkdincgaa
open Go.RowKit Sha

theorem ret_int {k : IntKind} {a b : Int} (h : a = b) : Ending.returned (.int k a) = .returned (.int k b) := by rw [h]

theorem rotl_any (x : W) (n : Nat) (h1 : 1 ≤ n) (h2 : n ≤ 31) (w : World) :
    Calls Try.prog 42 #[.int .u32 (x.toNat : Int), .int .i64 (-(n : Int))] w fun e w' => e = .returned (.int .u32 ((rotr x n).toNat : Int)) ∧ w = w' := by
  obtain ⟨m, hm⟩ : ∃ m : Nat, m = 32 - n := ⟨_, rfl⟩
  have hn : n = 32 - m := by omega
  have h3 : 1 ≤ m := by omega
  have h4 : m ≤ 31 := by omega
  have e1 : bits .and .u64 (IntKind.u64.wrap (-(n : Int))) 31 = (m : Int) := by go_bits2
  have e2 : IntKind.u64.wrap (32 - (m : Int)) = (n : Int) := by rw [IntKind.wrap_u64]; omega
  have HM := Lib.hid hm; clear hm
  have HN := Lib.hid hn; clear hn
  go_enter Try.func42, Try.ntmps42
  go_wp2
  go_ret
  refine ⟨ret_int ?_, rfl⟩
  rw [w_shl', w_shr, w_or, HM.out, or_comm']
  rfl

theorem right_any (x : W) (n : Nat) (h1 : 1 ≤ n) (h2 : n ≤ 31) (w : World) :
    Calls Try.prog 39 #[.int .u32 (x.toNat : Int), .int .i64 (n : Int)] w fun e w' => e = .returned (.int .u32 ((rotr x n).toNat : Int)) ∧ w = w' := by
  go_enter Try.func39, Try.ntmps39
  go_wp2_with (go_at_call 42; refine (rotl_any x n h1 h2 _).mono ?_; rintro e w' ⟨rfl, rfl⟩)
  go_ret
  exact ⟨rfl, rfl⟩

theorem rotr_any (x : W) (n : Nat) (h1 : 1 ≤ n) (h2 : n ≤ 31) (w : World) :
    Calls Try.prog 36 #[.int .u32 (x.toNat : Int), .int .i64 (n : Int)] w fun e w' => e = .returned (.int .u32 ((rotr x n).toNat : Int)) ∧ w = w' := by
  obtain ⟨m, hm⟩ : ∃ m : Nat, m = 32 - n := ⟨_, rfl⟩
  have h3 : 1 ≤ m := by omega
  have h4 : m ≤ 31 := by omega
  have e1 : IntKind.u64.wrap (n : Int) = (n : Int) := by rw [IntKind.wrap_u64]; omega
  have e2 : IntKind.i64.wrap (32 - (n : Int)) = (m : Int) := by rw [IntWalk.i64_in _ (by omega)]; omega
  have e3 : IntKind.u64.wrap (m : Int) = (m : Int) := by rw [IntKind.wrap_u64]; omega
  have HM := Lib.hid hm; clear hm
  go_enter Try.func36, Try.ntmps36
  go_wp2
  go_ret
  refine ⟨ret_int ?_, rfl⟩
  rw [w_shl', w_shr, w_or, HM.out]
  rfl

theorem word_any (s : ByteArray) (hs : 4 ≤ s.size) (hb : s.size ≤ 140737488351232) (w : World) :
    Calls Try.prog 41 #[.string s] w fun e w' => e = .returned (.int .u32 ((word s.data.toList 0).toNat : Int)) ∧ ∃ n, w' = w.drewN n := by
  have a0 : 0 < s.size := by omega
  have a1 : 1 < s.size := by omega
  have a2 : 2 < s.size := by omega
  have a3 : 3 < s.size := by omega
  have b1 : (1 : Int) < (s.size : Int) := by omega
  have b2 : (2 : Int) < (s.size : Int) := by omega
  have b3 : (3 : Int) < (s.size : Int) := by omega
  go_enter Try.func41, Try.ntmps41
  go_wp2
  go_quiet (fail)
  go_wp2
  go_ret
  refine ⟨ret_int ?_, nq, rfl⟩
  rw [quad_or]
  unfold word
  rw [getD_str s _ (by omega), getD_str s _ (by omega), getD_str s _ (by omega), getD_str s _ (by omega)]

/-- A digest's words as a value's cells. -/
def St.cells (s : St) : Array Value :=
  #[.int .u32 (s.a.toNat : Int), .int .u32 (s.b.toNat : Int), .int .u32 (s.c.toNat : Int), .int .u32 (s.d.toNat : Int), .int .u32 (s.e.toNat : Int), .int .u32 (s.f.toNat : Int), .int .u32 (s.g.toNat : Int), .int .u32 (s.h.toNat : Int)]

theorem first_any (w : World) :
    Calls Try.prog 27 #[] w fun e w' => e = .returned (.agg (St.cells first)) ∧ w' = w.alloc (.cells (St.cells first) 36) := by
  go_enter Try.func27, Try.ntmps27
  go_wp2
  exact bodyPost_ret (v := .agg (St.cells first)) (by simp [results, Try.results27, go_sem, St.cells, first]) rfl ⟨rfl, rfl⟩

theorem ks_length : ks.length = 64 := by decide
/-- The constants as a value's cells. -/
def kcells : Array Value := #[.int .u32 1116352408, .int .u32 1899447441, .int .u32 3049323471, .int .u32 3921009573, .int .u32 961987163, .int .u32 1508970993, .int .u32 2453635748, .int .u32 2870763221, .int .u32 3624381080, .int .u32 310598401, .int .u32 607225278, .int .u32 1426881987, .int .u32 1925078388, .int .u32 2162078206, .int .u32 2614888103, .int .u32 3248222580, .int .u32 3835390401, .int .u32 4022224774, .int .u32 264347078, .int .u32 604807628, .int .u32 770255983, .int .u32 1249150122, .int .u32 1555081692, .int .u32 1996064986, .int .u32 2554220882, .int .u32 2821834349, .int .u32 2952996808, .int .u32 3210313671, .int .u32 3336571891, .int .u32 3584528711, .int .u32 113926993, .int .u32 338241895, .int .u32 666307205, .int .u32 773529912, .int .u32 1294757372, .int .u32 1396182291, .int .u32 1695183700, .int .u32 1986661051, .int .u32 2177026350, .int .u32 2456956037, .int .u32 2730485921, .int .u32 2820302411, .int .u32 3259730800, .int .u32 3345764771, .int .u32 3516065817, .int .u32 3600352804, .int .u32 4094571909, .int .u32 275423344, .int .u32 430227734, .int .u32 506948616, .int .u32 659060556, .int .u32 883997877, .int .u32 958139571, .int .u32 1322822218, .int .u32 1537002063, .int .u32 1747873779, .int .u32 1955562222, .int .u32 2024104815, .int .u32 2227730452, .int .u32 2361852424, .int .u32 2428436474, .int .u32 2756734187, .int .u32 3204031479, .int .u32 3329325298]

theorem kcells_eq : kcells = (ks.map fun x => Value.int .u32 (x.toNat : Int)).toArray := rfl

end Go.Proofs.Ythlppmhkdincgaa
