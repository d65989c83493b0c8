/- What stands behind a text: what 'ending' answers. -/
import Derived.Test.YthlppmhkdincgaaD
namespace Go.Proofs.Ythlppmhkdincgaa
open Go.RowKit Sha

/-- How many elements a slice has. -/
def lenOf : Value → Nat
  | .slice _ n _ => n
  | _ => 0

theorem own_form {w : World} {base n : Nat} {v : Value} {xs : List Value} (h : w.ownsRow base 5 1 v (n + 1) xs) : ∃ g cap, v = .slice (some ⟨g, 0, none⟩) (n + 1) cap ∧ n + 1 ≤ cap ∧ cap ≤ maxLen := by
  rcases h.2 with ⟨_, h0⟩ | ⟨g, cap, cur, hv, _, _, h1, h2, _, _⟩
  · omega
  · exact ⟨g, cap, hv, h1, h2⟩

theorem zeros_more (n z : Nat) (h : z < zeros n) : (n + (1 + z)) % 64 ≠ 56 := by unfold zeros at h; omega
theorem zeros_done (n : Nat) : (n + (1 + zeros n)) % 64 = 56 := by unfold zeros; omega
theorem zeros_lt (n : Nat) : zeros n < 64 := by unfold zeros; omega

theorem eight_length (n : Nat) : (eight n).length = 8 := rfl
theorem eight_get (n j : Nat) (h : j < 8) : n / 2 ^ (56 - 8 * j) % 256 = ((eight n).getD j 0).toNat := by
  match j, h with
  | 0, _ => simp [eight]
  | 1, _ => simp [eight]
  | 2, _ => simp [eight]
  | 3, _ => simp [eight]
  | 4, _ => simp [eight]
  | 5, _ => simp [eight]
  | 6, _ => simp [eight]
  | 7, _ => simp [eight]
theorem eight_take (n j : Nat) (h : j < 8) : (eight n).take (j + 1) = (eight n).take j ++ [(eight n).getD j 0] := by
  have hl : j < (eight n).length := h
  rw [List.take_succ_eq_append_getElem hl, List.getD_eq_getElem?_getD, List.getElem?_eq_getElem hl]
  rfl

theorem eight_all (n : Nat) : (0x80 : UInt8) :: (List.replicate (zeros n) 0 ++ (eight (8 * n)).take 8) = ending n := rfl
/-- A slice comes back that reads as these bytes; nothing that was there has turned. -/
def RetBytes (w : World) (l : List UInt8) (e : Ending) (w' : World) : Prop := ∃ v, e = .returned v ∧ BytesAt w' v l ∧ Below w.heap.size w w'

theorem own_one (w : World) (c : UInt8) : (w.alloc (.cells #[u8v c] 5)).ownsRow w.heap.size 5 1 (.slice (some ⟨w.heap.size, 0, none⟩) 1 1) 1 [u8v c] :=
  ⟨rfl, .inr ⟨w.heap.size, 1, #[u8v c], rfl, Nat.le_refl _, heap_alloc_new w _, Nat.le_refl _, by decide, rfl, rfl⟩⟩

set_option maxHeartbeats 1000000 in
theorem ending_any (n : Nat) (hn : n ≤ 1099511627776) (w : World) :
    Calls Try.prog 30 #[.int .i64 (n : Int)] w (RetBytes w (ending n)) := by
  obtain ⟨i0, hi, hz0, hz1, hz2⟩ := info_parts Try.info5
  go_enter Try.func30, Try.ntmps30
  go_wp2
  go_loopw [3] (fun b wr => ∃ z : Nat, z ≤ zeros n ∧ wr.ownsRow w.heap.size 5 1 b (z + 1) (((0x80 : UInt8) :: List.replicate z 0).map u8v) ∧ Below w.heap.size w wr) (fun b _ => 64 - lenOf b)
  case atStart => exact ⟨0, Nat.zero_le _, own_one w 0x80, (Below.refl _ _).alloc (Nat.le_refl _) _⟩
  case round =>
    obtain ⟨z, hz, hown, hb⟩ := hrel
    obtain ⟨g, cap, hv, hc1, hc2⟩ := own_form hown
    subst hv
    have hzl := zeros_lt n
    have hsz := hb.size
    by_cases hlt : z < zeros n
    · have hne := zeros_more n z hlt
      go_wp2_with (at_builtin; refine wpList_append_own _ rfl _ _ 32 rfl w.heap.size 5 i0 (.int .u8 0) 1 1 Try.underlying32 hi hz0 hz1 hz2 rfl (by decide) _ _ _ rfl (hown.alloc _) ⟨wr.heap.size, 0, none⟩ 1 1 [u8v 0] rfl rfl (news_new _ _ _ _ rfl) (u8v_one [0]) (by unfold maxLen; omega) (by omega) (by simp; omega) ?_)
      intro v' w1 hown1 hgrow _
      have hb1 : Below w.heap.size w w1 := (hb.alloc hb.size _).grown hgrow (by simp; omega) (fun g hg => (hown.lt g hg).1)
      have Hown := Lib.hid hown1
      clear hown1 hgrow hown
      go_wp2
      go_roundw
      case rel =>
        refine ⟨z + 1, by omega, ?_, hb1⟩
        have h := Hown.out
        rw [List.replicate_succ', ← List.cons_append, List.map_append]
        simpa using h
      case measure =>
        obtain ⟨g', cap', hv', _⟩ := own_form Hown.out
        rw [hv']; simp [lenOf]; omega
    · obtain rfl : z = zeros n := by omega
      have hdone := zeros_done n
      have hq : (((n : Int) + ((zeros n : Int) + 1)) % 64 != 56) = false := by rw [bne_eq_false_iff_eq]; omega
      have e1 : IntKind.u64.wrap (n : Int) = (n : Int) := by rw [IntKind.wrap_u64]; omega
      go_wp2
      go_loopw [3, 5] (fun b sh wr => ∃ j : Nat, j ≤ 8 ∧ sh = .int .i64 (56 - 8 * (j : Int)) ∧ wr.ownsRow w.heap.size 5 1 b (zeros n + j + 1) (((0x80 : UInt8) :: (List.replicate (zeros n) 0 ++ (eight (8 * n)).take j)).map u8v) ∧ Below w.heap.size w wr)
        (fun _ sh _ => (intOf sh + 8).toNat)
      case atStart => exact ⟨0, by omega, rfl, by simpa using hown, hb⟩
      case round =>
        clear hown hb hsz hc1 hc2
        obtain ⟨j, hj, rfl, hown, hb⟩ := hrel
        obtain ⟨g, cap, hv, hc1, hc2⟩ := own_form hown
        subst hv
        have hsz := hb.size
        by_cases hj8 : j < 8
        · obtain ⟨sh, hsh⟩ : ∃ sh : Nat, sh = 56 - 8 * j := ⟨_, rfl⟩
          have e2 : (56 - 8 * (j : Int)) = (sh : Int) := by omega
          have e3 : IntKind.u64.wrap (sh : Int) = (sh : Int) := by rw [IntKind.wrap_u64]; omega
          have hs56 : sh ≤ 56 := by omega
          have e4 : ((n : Int) * 8 / 2 ^ sh) % 256 = (((eight (8 * n)).getD j 0).toNat : Int) := by
            rw [← eight_get (8 * n) j hj8, ← hsh, Nat.mul_comm]
            simp
          have e5 : ((sh : Int) - 8) = 56 - 8 * ((j + 1 : Nat) : Int) := by omega
          have ht := eight_take (8 * n) j hj8
          have E4 := Lib.hid e4
          have E5 := Lib.hid e5
          have HT := Lib.hid ht
          have HS := Lib.hid hsh
          clear e4 e5 ht hsh
          rw [e2]
          go_wp2_with (at_builtin; refine wpList_append_own _ rfl _ _ 32 rfl w.heap.size 5 i0 (.int .u8 0) 1 1 Try.underlying32 hi hz0 hz1 hz2 rfl (by decide) _ _ _ rfl (hown.alloc _) ⟨wr.heap.size, 0, none⟩ 1 1 [u8v ((eight (8 * n)).getD j 0)] rfl rfl (news_new _ _ _ _ (by rw [E4.out]; rfl)) (u8v_one [_]) (by unfold maxLen; omega) (by omega) (by simp; omega) ?_)
          intro v' w1 hown1 hgrow _
          have hb1 : Below w.heap.size w w1 := (hb.alloc hb.size _).grown hgrow (by simp; omega) (fun g hg => (hown.lt g hg).1)
          have Hown := Lib.hid hown1
          clear hown1 hgrow hown
          go_wp2
          go_roundw
          case rel =>
            refine ⟨j + 1, by omega, congrArg (Value.int IntKind.i64) E5.out, ?_, hb1⟩
            have h := Hown.out
            rw [HT.out]
            simpa [Nat.add_assoc] using h
          case measure => simp [intOf]; omega
        · obtain rfl : j = 8 := by omega
          have e6 : (56 - 8 * ((8 : Nat) : Int)) = -8 := by omega
          rw [e6]
          go_wp2
          go_ret
          exact ⟨_, rfl, by rw [← eight_all]; exact .of_own hown, hb⟩
end Go.Proofs.Ythlppmhkdincgaa
