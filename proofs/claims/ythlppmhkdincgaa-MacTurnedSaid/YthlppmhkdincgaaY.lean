/- What 'Right' and 'Count' answer; what must come of fixed calls of the tag. -/
import Derived.Test.YthlppmhkdincgaaX
attribute [local go_sem ↓] Go.wp_at_zero Go.wp_at_succ
namespace Go.Proofs.Ythlppmhkdincgaa
open Go.RowKit Sha

theorem odd_step (o a b : UInt8) : o ||| (a ^^^ b) = 0 ↔ o = 0 ∧ a = b := by
  rw [UInt8.or_eq_zero_iff, UInt8.xor_eq_zero_iff]

theorem take_step (l r : List UInt8) (i : Nat) (hl : i < l.length) (hr : i < r.length) : l.take (i + 1) = r.take (i + 1) ↔ l.take i = r.take i ∧ l[i] = r[i] := by
  rw [List.take_succ_eq_append_getElem hl, List.take_succ_eq_append_getElem hr]
  constructor
  · intro h
    have h2 := List.append_inj h (by simp; omega)
    exact ⟨h2.1, by simpa using h2.2⟩
  · rintro ⟨h1, h2⟩
    rw [h1, h2]

set_option maxHeartbeats 1000000 in
theorem tagRight_any (k s t : ByteArray) (w : World) (hk : k.size ≤ 1000000) (hs : s.size ≤ 1000000) :
    Calls Try.prog 18 #[.string k, .string s, .string t] w fun e w' => e = .returned (.bool (decide (t.data.toList = tag k.data.toList s.data.toList))) ∧ Below w.heap.size w w' := by
  go_enter Try.func18, Try.ntmps18
  go_wp2_with fail
  refine (tag_any k s w hk hs).mono ?_
  rintro e w1 ⟨rfl, hb1⟩
  have HB1 := Lib.hid hb1
  clear hb1
  obtain ⟨g, hg⟩ : ∃ g, g = str (tag k.data.toList s.data.toList) := ⟨_, rfl⟩
  have hgl : tag k.data.toList s.data.toList = g.data.toList := by rw [hg]; rfl
  have hgs : g.size = 32 := by rw [hg]; rfl
  rw [← hg]
  have HGL := Lib.hid hgl
  clear hg hgl
  by_cases hts : t.size = 32
  · have hti : (t.size : Int) = 32 := by omega
    have hgi : (g.size : Int) = 32 := by omega
    have HTS := Lib.hid hts
    have HGS := Lib.hid hgs
    clear hts hgs
    go_wp2
    go_loopw [8, 9, 20] (fun o _ a wr => ∃ (i : Nat) (x : UInt8), i ≤ 32 ∧ a = .int .i64 i ∧ o = .int .u8 (x.toNat : Int) ∧ (x = 0 ↔ g.data.toList.take i = t.data.toList.take i) ∧ Below w.heap.size w wr) (fun _ _ a _ => 32 - (intOf a).toNat)
    case atStart => exact ⟨0, 0, by omega, rfl, rfl, by simp, HB1.out⟩
    case round =>
      obtain ⟨i, x, hi, rfl, rfl, hx, hb⟩ := hrel
      by_cases hlt : i < 32
      · have hlti : (i : Int) < 32 := by omega
        have hg1 : i < g.size := by have := HGS.out; omega
        have ht1 : i < t.size := by have := HTS.out; omega
        have hg2 : (i : Int) < (g.size : Int) := by omega
        have ht2 : (i : Int) < (t.size : Int) := by omega
        obtain ⟨y, hy⟩ : ∃ y, y = g[i] ^^^ t[i] := ⟨_, rfl⟩
        obtain ⟨z, hz⟩ : ∃ z, z = x ||| y := ⟨_, rfl⟩
        have e1 : bits .xor .u8 (g[i].toNat : Int) (t[i].toNat : Int) = (y.toNat : Int) := by rw [b_xor, hy]
        have e2 : bits .or .u8 (x.toNat : Int) (y.toNat : Int) = (z.toNat : Int) := by rw [b_or, hz]
        have hstep : z = 0 ↔ g.data.toList.take (i + 1) = t.data.toList.take (i + 1) := by
          rw [hz, hy, odd_step, hx, take_step _ _ i (by simpa using hg1) (by simpa using ht1)]
          rfl
        have HSTEP := Lib.hid hstep
        clear hstep hx hz hy
        go_wp2
        go_quiet (fail)
        go_wp2
        go_roundw
        case rel => exact ⟨i + 1, _, by omega, by go_num, rfl, HSTEP.out, below_drewN hb _⟩
        case measure => simp [intOf]; omega
      · obtain rfl : i = 32 := by omega
        obtain ⟨r, hr⟩ : ∃ r : Bool, r = decide (t.data.toList = g.data.toList) := ⟨_, rfl⟩
        have e3 : ((x.toNat : Int) == 0) = r := by
          have hgt : g.data.toList.take 32 = g.data.toList := List.take_of_length_le (by have := HGS.out; simp; omega)
          have htt : t.data.toList.take 32 = t.data.toList := List.take_of_length_le (by have := HTS.out; simp; omega)
          rw [hgt, htt] at hx
          have h1 : ((x.toNat : Int) = 0) ↔ x = 0 := by
            rw [← UInt8.toNat_inj]
            simp
          by_cases hxz : x = 0
          · have h2 := hx.1 hxz
            rw [hr, h2, hxz]
            simp
          · have h2 : ¬ t.data.toList = g.data.toList := fun h => hxz (hx.2 h.symm)
            rw [hr, decide_eq_false h2]
            rw [beq_eq_false_iff_ne]
            exact fun h => hxz (h1.1 h)
        have HRR := Lib.hid hr
        clear hr
        go_wp2
        go_ret
        refine ⟨?_, hb⟩
        rw [HGL.out, ← HRR.out]
        rfl
  · have hti : ¬ (t.size : Int) = 32 := by omega
    have hgi : (g.size : Int) = 32 := by omega
    go_wp2
    go_ret
    refine ⟨?_, HB1.out⟩
    rw [HGL.out]
    have h2 : ¬ t.data.toList = g.data.toList := fun h => by
      have h3 := congrArg List.length h
      simp at h3
      omega
    rw [decide_eq_false h2]
    rfl

theorem count_any (n : Int) (h1 : -9223372036854775808 ≤ n) (h2 : n ≤ 9223372036854775807) (w : World) :
    Calls Try.prog 21 #[.int .i64 n, .int .i64 32] w fun e w' => (∃ k : Nat, k < 32 ∧ e = .returned (.int .i64 k)) ∧ w = w' := by
  go_enter Try.func21, Try.ntmps21
  by_cases hn : n < 0
  · obtain ⟨m, hm⟩ : ∃ m : Nat, (m : Int) = -(n + 1) := ⟨(-(n + 1)).toNat, by omega⟩
    have e1 : IntKind.i64.wrap (n + 1) = n + 1 := IntWalk.i64_in _ (by omega)
    have e2 : IntKind.i64.wrap (-(n + 1)) = (m : Int) := by rw [IntWalk.i64_in _ (by omega)]; omega
    go_wp2
    go_ret
    refine ⟨⟨m % 32, by omega, ?_⟩, rfl⟩
    show Ending.returned (.int .i64 (-(n + 1).tmod 32)) = _
    rw [← Int.neg_tmod, ← hm]
    rfl
  · obtain ⟨m, rfl⟩ : ∃ m : Nat, n = (m : Int) := ⟨n.toNat, by omega⟩
    go_wp2
    go_ret
    exact ⟨⟨m % 32, by omega, rfl⟩, rfl⟩

def keyKey : ByteArray := ⟨#[107, 101, 121]⟩
def fox : ByteArray := ⟨#[84, 104, 101, 32, 113, 117, 105, 99, 107, 32, 98, 114, 111, 119, 110, 32, 102, 111, 120, 32, 106, 117, 109, 112, 115, 32, 111, 118, 101, 114, 32, 116, 104, 101, 32, 108, 97, 122, 121, 32, 100, 111, 103]⟩
def foxTag : ByteArray := str (tag keyKey.data.toList fox.data.toList)
def foxHex : ByteArray := ⟨#[102, 55, 98, 99, 56, 51, 102, 52, 51, 48, 53, 51, 56, 52, 50, 52, 98, 49, 51, 50, 57, 56, 101, 54, 97, 97, 54, 102, 98, 49, 52, 51, 101, 102, 52, 100, 53, 57, 97, 49, 52, 57, 52, 54, 49, 55, 53, 57, 57, 55, 52, 55, 57, 100, 98, 99, 50, 100, 49, 97, 51, 99, 100, 56]⟩
theorem foxHex_list : foxHex.toList = [102, 55, 98, 99, 56, 51, 102, 52, 51, 48, 53, 51, 56, 52, 50, 52, 98, 49, 51, 50, 57, 56, 101, 54, 97, 97, 54, 102, 98, 49, 52, 51, 101, 102, 52, 100, 53, 57, 97, 49, 52, 57, 52, 54, 49, 55, 53, 57, 57, 55, 52, 55, 57, 100, 98, 99, 50, 100, 49, 97, 51, 99, 100, 56] := by decide +kernel
set_option maxRecDepth 100000 in
theorem hex_fox : str (Sha.hex foxTag.data.toList) = foxHex := by
  have : Sha.hex (tag keyKey.data.toList fox.data.toList) = foxHex.data.toList := by decide +kernel
  unfold foxTag
  rw [str_data, this, str_eta]
theorem foxTag_size : foxTag.size = 32 := by unfold foxTag; rw [str_size, tag_length]
theorem fox_of (w : World) : Calls Try.prog 20 #[.string ⟨#[107, 101, 121]⟩, .string ⟨#[84, 104, 101, 32, 113, 117, 105, 99, 107, 32, 98, 114, 111, 119, 110, 32, 102, 111, 120, 32, 106, 117, 109, 112, 115, 32, 111, 118, 101, 114, 32, 116, 104, 101, 32, 108, 97, 122, 121, 32, 100, 111, 103]⟩] w fun e w' => e = .returned (.string foxTag) ∧ Below w.heap.size w w' := tag_any keyKey fox w (by decide) (by decide)
theorem fox_hex (w : World) : Calls Try.prog 22 #[.string foxTag] w fun e w' => e = .returned (.string foxHex) ∧ Below w.heap.size w w' := by
  have := hex_any foxTag w (by rw [foxTag_size]; decide)
  rwa [hex_fox] at this
theorem fox_right (w : World) : Calls Try.prog 18 #[.string ⟨#[107, 101, 121]⟩, .string ⟨#[84, 104, 101, 32, 113, 117, 105, 99, 107, 32, 98, 114, 111, 119, 110, 32, 102, 111, 120, 32, 106, 117, 109, 112, 115, 32, 111, 118, 101, 114, 32, 116, 104, 101, 32, 108, 97, 122, 121, 32, 100, 111, 103]⟩, .string foxTag] w fun e w' => e = .returned (.bool true) ∧ Below w.heap.size w w' := by
  refine (tagRight_any keyKey fox foxTag w (by decide) (by decide)).mono ?_
  rintro e w' ⟨rfl, hb⟩
  refine ⟨?_, hb⟩
  rw [decide_eq_true]
  rfl
theorem fox_wrong (w : World) : Calls Try.prog 18 #[.string ⟨#[107, 101, 121]⟩, .string ⟨#[84, 104, 101, 32, 113, 117, 105, 99, 107, 32, 98, 114, 111, 119, 110, 32, 102, 111, 120, 32, 106, 117, 109, 112, 115, 32, 111, 118, 101, 114, 32, 116, 104, 101, 32, 108, 97, 122, 121, 32, 100, 111, 103]⟩, .string (foxTag ++ ⟨#[120]⟩)] w fun e w' => e = .returned (.bool false) ∧ Below w.heap.size w w' := by
  refine (tagRight_any keyKey fox _ w (by decide) (by decide)).mono ?_
  rintro e w' ⟨rfl, hb⟩
  refine ⟨?_, hb⟩
  rw [decide_eq_false]
  intro h
  have h2 := congrArg List.length h
  rw [tag_length, ByteArray.data_append, Array.toList_append] at h2
  have := foxTag_size
  simp at h2
  omega
theorem key_k (w : World) : Calls Try.prog 32 #[.string ⟨#[107]⟩] w fun e w' => (∃ x : ByteArray, x.size = 64 ∧ e = .returned (.string x)) ∧ Below w.heap.size w w' := by
  refine (key_any ⟨#[107]⟩ w (by decide)).mono ?_
  rintro e w' ⟨rfl, hb⟩
  exact ⟨⟨_, by rw [str_size, keyed_length], rfl⟩, hb⟩

set_option maxHeartbeats 1000000 in
theorem known03_any (w : World) : Calls Try.prog 17 #[] w fun e w' => e = .returned (.bool true) ∧ Below w.heap.size w w' := by
  go_enter Try.func17, Try.ntmps17
  have q1 := foxHex_list
  have q2 := foxTag_size
  go_wp2_with fail
  refine (fox_of w).mono ?_
  rintro e w1 ⟨rfl, hb1⟩
  have HB1 := Lib.hid hb1
  clear hb1
  go_wp2_with fail
  refine (fox_hex w1).mono ?_
  rintro e w2 ⟨rfl, hb2⟩
  have HB2 := Lib.hid (HB1.out.trans (hb2.mono HB1.out.size))
  clear hb2
  go_wp2_with fail
  refine (fox_right w2).mono ?_
  rintro e w3 ⟨rfl, hb3⟩
  have HB3 := Lib.hid (HB2.out.trans (hb3.mono HB2.out.size))
  clear hb3
  go_wp2_with fail
  refine (fox_wrong w3).mono ?_
  rintro e w4 ⟨rfl, hb4⟩
  have HB4 := Lib.hid (HB3.out.trans (hb4.mono HB3.out.size))
  clear hb4
  go_wp2_with fail
  refine (key_k w4).mono ?_
  rintro e w5 ⟨⟨x, hx, rfl⟩, hb5⟩
  have HB5 := Lib.hid (HB4.out.trans (hb5.mono HB4.out.size))
  have hxi : (x.size : Int) = 64 := by omega
  clear hb5
  go_wp2
  go_ret
  exact ⟨rfl, HB5.out⟩
end Go.Proofs.Ythlppmhkdincgaa
