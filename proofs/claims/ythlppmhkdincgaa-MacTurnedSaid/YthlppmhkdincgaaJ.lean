/- Bytes in digits: what 'octet.Hex' answers. -/
import Derived.Test.YthlppmhkdincgaaI
import Derived.Deep.AppendLies
attribute [local go_sem ↓] Go.wp_at_zero Go.wp_at_succ
namespace Go.Proofs.Ythlppmhkdincgaa
open Go.RowKit Sha

def digs : ByteArray := ⟨#[48, 49, 50, 51, 52, 53, 54, 55, 56, 57, 97, 98, 99, 100, 101, 102]⟩
theorem digs_get (d : Nat) (h : d < digs.size) : (digs[d]'h) = Sha.hexDigit d := by
  have all : ∀ j : Fin 16, (digs[j.val]'j.isLt) = Sha.hexDigit j.val := by decide +kernel
  exact all ⟨d, h⟩

theorem hex_take (l : List UInt8) (k : Nat) (h : k < l.length) : Sha.hex (l.take (k + 1)) = Sha.hex (l.take k) ++ [Sha.hexDigit (l[k].toNat / 16), Sha.hexDigit (l[k].toNat % 16)] := by
  rw [List.take_succ_eq_append_getElem h]
  simp only [Sha.hex, List.flatMap_append]
  rfl
theorem hex_length (l : List UInt8) : (Sha.hex l).length = 2 * l.length := by
  induction l with
  | nil => rfl
  | cons c l ih => simp [Sha.hex] at ih ⊢; omega

set_option maxHeartbeats 1000000 in
theorem hex_any (s : ByteArray) (w : World) (hs : s.size ≤ 1073741824) :
    Calls Try.prog 22 #[.string s] w fun e w' => e = .returned (.string (str (Sha.hex s.data.toList))) ∧ Below w.heap.size w w' := by
  obtain ⟨i0, hi, hz0, hz1, hz2⟩ := info_parts Try.info5
  go_enter Try.func22, Try.ntmps22
  go_wp2_with (at_make; refine wpList_make_own _ rfl _ _ 32 rfl w.heap.size 5 i0 (.int .u8 0) 1 Try.underlying32 hi hz0 hz1 _ _ _ (2 * s.size) rfl rfl (by omega) (by rw [hz2]; omega) (by unfold maxLen; omega) (Nat.le_refl _) ?_)
  intro w1 hown hgrow
  have hb1 : Below w.heap.size w w1 := (Below.refl _ _).grown hgrow (Nat.le_refl _) (fun k hk => by cases hk)
  have HO := Lib.hid hown
  have HB := Lib.hid hb1
  clear hown hgrow hb1
  go_wp2
  go_loopw [3, 4, 11] (fun b _ i wr => ∃ k : Nat, k ≤ s.size ∧ i = .int .i64 k ∧ wr.ownsRow w.heap.size 5 1 b (2 * k) ((Sha.hex (s.data.toList.take k)).map u8v) ∧ Below w.heap.size w wr) (fun _ _ i _ => s.size - (intOf i).toNat)
  case atStart => exact ⟨0, by omega, rfl, HO.out, HB.out⟩
  case round =>
    obtain ⟨k, hk, rfl, hown, hb⟩ := hrel
    by_cases hlt : k < s.size
    · have hlti : (k : Int) < (s.size : Int) := by omega
      have ht := hex_take s.data.toList k (by simpa using hlt)
      have hg : s.data.toList[k]'(by simpa using hlt) = s[k] := rfl
      rw [hg] at ht
      have hc := s[k].toNat_lt
      obtain ⟨d1, hd1⟩ : ∃ d1, d1 = s[k].toNat / 16 := ⟨_, rfl⟩
      obtain ⟨d2, hd2⟩ : ∃ d2, d2 = s[k].toNat % 16 := ⟨_, rfl⟩
      have e1 : (s[k].toNat : Int) / 16 = (d1 : Int) := by omega
      have e2 : bits .and .u8 (s[k].toNat : Int) 15 = (d2 : Int) := by rw [hd2]; go_bits2
      have l1 : d1 < 16 := by omega
      have l2 : d2 < 16 := by omega
      have m1 : (d1 : Int) < 16 := by omega
      have m2 : (d2 : Int) < 16 := by omega
      rw [← hd1, ← hd2] at ht
      have HT := Lib.hid ht
      clear ht hg hd1 hd2
      go_wp2
      go_region_law ((refine step_append_lies _ (by rfl) (.tmp 14) (.tmp 25) 32 (by rfl) w.heap.size 5 i0 (.int .u8 0) 1 1 Try.underlying32 hi hz0 hz1 hz2 rfl (by decide) _ _ _ (by rfl) ((hown.alloc _).drew) ⟨wr.heap.size, 0, none⟩ 2 2 _ (by rfl) (by rfl) (World.news_of_block (heap_alloc_new wr _)) (by simp [Value.oneCell']) (by omega) (by unfold maxLen; omega) (by omega) (by have := hb.size; simp; omega) (wr.heap.size + 1) (by simp) ?_; intro g cap w1 hown1 hgrow hat hlt1))
      all_goals
        have hb1 : Below w.heap.size w w1 := (hb.alloc hb.size _).drew.grown hgrow (by have := hb.size; simp; omega) (fun g hg => (hown.lt g hg).1)
        have hn : w1.ownsRow w.heap.size 5 1 (.slice (some ⟨g, 0, none⟩) (2 * k + 2) cap) (2 * k + 2) ((Sha.hex (s.data.toList.take (k + 1))).map u8v) := by
          rw [HT.out, List.map_append, ← digs_get d1 l1, ← digs_get d2 l2]
          exact hown1
        have HN := Lib.hid hn
        clear hn hown1 hgrow hat hlt1 hown
        go_wp2
        go_roundw
        case rel => exact ⟨k + 1, by omega, by go_num, HN.out, hb1⟩
        case measure => simp [intOf]; omega
    · obtain rfl : k = s.size := by omega
      have ht : s.data.toList.take s.size = s.data.toList := List.take_of_length_le (by simp)
      rw [ht] at hown
      have hconv := run_convert_bytes wr _ _ (.of_own hown)
      clear ht
      go_wp2
      go_ret
      exact ⟨rfl, hb⟩
end Go.Proofs.Ythlppmhkdincgaa
