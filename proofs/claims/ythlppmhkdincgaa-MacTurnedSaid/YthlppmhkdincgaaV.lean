/- A key's bytes mixed with one: the code's closure and the document's 'mixed'. -/
import Derived.Test.YthlppmhkdincgaaT
attribute [local go_sem ↓] Go.wp_at_zero Go.wp_at_succ
namespace Go.Proofs.Ythlppmhkdincgaa
open Go.RowKit Sha

theorem OwnB.row {w : World} {base : Nat} {v : Value} {l : List UInt8} (h : OwnB w base v l) : ∃ g cap, v = .slice (some ⟨g, 0, none⟩) l.length cap ∧ base ≤ g ∧ ByteRow w g l cap := by
  obtain ⟨g, cap, cur, fr, hv, hb, hh, hf, h1, h2, h3, h4⟩ := h
  exact ⟨g, cap, hv, hb, cur, fr, hh, hf, h1, h2, h3, h4⟩

theorem mixed_set (l : List UInt8) (c : UInt8) (i : Nat) (h : i < l.length) : (mixed (l.take i) c ++ l.drop i).set i (l[i] ^^^ c) = mixed (l.take (i + 1)) c ++ l.drop (i + 1) := by
  have hm : (mixed (l.take i) c).length = i := by simp [mixed]; omega
  rw [List.set_append_right _ _ (by omega), hm, Nat.sub_self, List.drop_eq_getElem_cons h, List.set_cons_zero, List.take_succ_eq_append_getElem h]
  simp only [mixed, List.map_append, List.map_cons, List.map_nil, List.append_assoc, List.singleton_append]
theorem mixed_at (l : List UInt8) (c : UInt8) (i : Nat) (h : i < l.length) (h2 : i < (mixed (l.take i) c ++ l.drop i).length) : (mixed (l.take i) c ++ l.drop i)[i] = l[i] := by
  have hm : (mixed (l.take i) c).length = i := by simp [mixed]; omega
  rw [List.getElem_append_right (by omega)]
  simp [hm]
theorem mixed_len (l : List UInt8) (c : UInt8) (i : Nat) : (mixed (l.take i) c ++ l.drop i).length = l.length := by
  simp [mixed]; omega

set_option maxHeartbeats 1000000 in
theorem mixer_any (s : ByteArray) (c : UInt8) (p : Nat) (w : World) (hp : w.cell? ⟨p, 0, none⟩ = some (.string s)) (hs : s.size ≤ 1073741824) :
    Calls Try.prog 40 #[.int .u8 (c.toNat : Int), .pointer (some ⟨p, 0, none⟩)] w fun e w' => e = .returned (.string (str (mixed s.data.toList c))) ∧ Below w.heap.size w w' := by
  obtain ⟨v0, w0, hconv, ho0, hb0⟩ := OwnB.conv w w.heap.size s (Nat.le_refl _) (by omega)
  obtain ⟨g, cap, rfl, hg, hrow⟩ := ho0.row
  obtain ⟨l, hl⟩ : ∃ l, l = s.data.toList := ⟨_, rfl⟩
  have hln : l.length = s.size := by rw [hl]; simp
  rw [← hl] at hrow hconv
  rw [← hl]
  have HL := Lib.hid hl
  have hlb : l.length ≤ 1073741824 := by rw [hln]; exact hs
  have HLN := Lib.hid hln
  have HR := Lib.hid hrow
  have HB := Lib.hid hb0
  clear hl hln hrow hb0 ho0
  go_enter Try.func40, Try.ntmps40
  go_wp2
  go_loopw [5, 10] (fun _ a wr => ∃ i : Nat, i ≤ l.length ∧ a = .int .i64 i ∧ ByteRow wr g (mixed (l.take i) c ++ l.drop i) cap ∧ Below w.heap.size w wr) (fun _ a _ => l.length - (intOf a).toNat)
  case atStart => exact ⟨0, Nat.zero_le _, rfl, by simpa [mixed] using HR.out, HB.out⟩
  case round =>
    obtain ⟨i, hin, rfl, hrow, hb⟩ := hrel
    by_cases hlt : i < l.length
    · have hlti : (i : Int) < (l.length : Int) := by omega
      have hi2 : i < (mixed (l.take i) c ++ l.drop i).length := by rw [mixed_len]; exact hlt
      obtain ⟨hc, hf⟩ := hrow.cell i hi2
      rw [mixed_at l c i hlt hi2] at hc
      have hset := hrow.set i hi2 (l[i] ^^^ c)
      rw [mixed_set l c i hlt] at hset
      have hbs := hb.setCell (p := ⟨g, i, none⟩) hg (u8v (l[i] ^^^ c))
      have hx := b_xor l[i] c
      simp only [u8v] at hset hbs hc
      generalize l[i] = x at *
      have HS := Lib.hid hset
      have HBS := Lib.hid hbs
      clear hset hbs hrow hb hi2
      go_wp2
      go_roundw
      case rel => exact ⟨i + 1, by omega, by go_num, HS.out, HBS.out⟩
      case measure => simp [intOf]; omega
    · obtain rfl : i = l.length := by omega
      have hconv2 := run_convert_bytes wr _ _ hrow.bytes
      rw [mixed_len] at hconv2
      have e : mixed (l.take l.length) c ++ l.drop l.length = mixed l c := by simp
      rw [e] at hconv2
      have HBF := Lib.hid hb
      clear hrow hb e
      go_wp2
      go_ret
      exact ⟨rfl, HBF.out⟩

set_option maxHeartbeats 1000000 in
theorem refMixed_any (s : ByteArray) (c : UInt8) (w : World) (hs : s.size ≤ 1073741824) :
    Calls Try.prog 34 #[.string s, .int .u8 (c.toNat : Int)] w fun e w' => e = .returned (.string (str (mixed s.data.toList c))) ∧ Below w.heap.size w w' := by
  obtain ⟨i0, hi, hz0, hz1, hz2⟩ := info_parts Try.info5
  go_enter Try.func34, Try.ntmps34
  go_wp2
  go_loopw [5, 6] (fun b a wr => ∃ k : Nat, k ≤ s.size ∧ a = .int .i64 k ∧ wr.ownsRow w.heap.size 5 1 b k ((mixed (s.data.toList.take k) c).map u8v) ∧ Below w.heap.size w wr) (fun _ a _ => s.size - (intOf a).toNat)
  case atStart => exact ⟨0, Nat.zero_le _, rfl, World.ownsRow_nil _ _ _ _, Below.refl _ _⟩
  case round =>
    obtain ⟨k, hk, rfl, hown, hb⟩ := hrel
    have hsz := hb.size
    by_cases hlt : k < s.size
    · have hlti : (k : Int) < (s.size : Int) := by omega
      have ht : mixed (s.data.toList.take (k + 1)) c = mixed (s.data.toList.take k) c ++ [s[k] ^^^ c] := by
        rw [List.take_succ_eq_append_getElem (by simpa using hlt)]
        simp only [mixed, List.map_append]
        rfl
      have hx := b_xor s[k] c
      have HT := Lib.hid ht
      clear ht
      go_wp2_with (at_builtin; refine wpList_append_own _ rfl _ _ 32 rfl w.heap.size 5 i0 (.int .u8 0) 1 1 Try.underlying32 hi hz0 hz1 hz2 rfl (by decide) _ _ _ rfl (hown.alloc _) ⟨wr.heap.size, 0, none⟩ 1 1 [u8v (s[k] ^^^ c)] rfl rfl (news_new _ _ _ _ (by first | rfl | (rw [← hx]; rfl))) (u8v_one [_]) (by unfold maxLen; omega) (by omega) (by simp; omega) ?_)
      intro v' w1 hown1 hgrow _
      have hb1 : Below w.heap.size w w1 := (hb.alloc hb.size _).grown hgrow (by simp; omega) (fun g hg => (hown.lt g hg).1)
      have HO := Lib.hid hown1
      have HB1 := Lib.hid hb1
      clear hown1 hgrow hown hb1
      go_wp2
      go_roundw
      case rel =>
        refine ⟨k + 1, by omega, by go_num, ?_, HB1.out⟩
        rw [HT.out, List.map_append]
        exact HO.out
      case measure => simp [intOf]; omega
    · obtain rfl : k = s.size := by omega
      have ht : s.data.toList.take s.size = s.data.toList := List.take_of_length_le (by simp)
      rw [ht] at hown
      have hconv := run_convert_bytes wr _ _ (.of_own hown)
      clear ht
      go_wp2
      go_ret
      exact ⟨rfl, hb⟩

def sizeOfS : Value → Nat
  | .string s => s.size
  | _ => 0

set_option maxHeartbeats 1000000 in
theorem refKey_any (s : ByteArray) (w : World) (hs : s.size ≤ 1073741824) :
    Calls Try.prog 33 #[.string s] w fun e w' => e = .returned (.string (str (keyed s.data.toList))) ∧ Below w.heap.size w w' := by
  go_enter Try.func33, Try.ntmps33
  by_cases hlt : 64 < s.size
  · have hlti : (64 : Int) < (s.size : Int) := by omega
    go_wp2_with fail
    refine (refOf_any s w hs).mono ?_
    rintro e w1 ⟨rfl, hb1⟩
    have HB1 := Lib.hid hb1
    clear hb1
    have hk := keyed_long s.data.toList hlt
    obtain ⟨t, ht⟩ : ∃ t, t = str (sha s.data.toList) := ⟨_, rfl⟩
    have hts : t.size = 32 := by rw [ht]; rfl
    have htl : t.data.toList = sha s.data.toList := by rw [ht]; rfl
    rw [← htl] at hk
    rw [← ht]
    have HK := Lib.hid hk
    have HT := Lib.hid hts
    clear hk ht htl hts
    go_wp2
    go_loopw [0] (fun a wr => ∃ (z : Nat) (x : ByteArray), a = .string x ∧ x.data.toList = t.data.toList ++ List.replicate z 0 ∧ t.size + z ≤ 64 ∧ wr = w1) (fun a _ => 64 - sizeOfS a)
    case atStart => exact ⟨0, t, rfl, by simp, by have := HT.out; omega, rfl⟩
    case round =>
      obtain ⟨z, x, rfl, hx, hz, rfl⟩ := hrel
      have hxs : x.size = t.size + z := by
        have h := congrArg List.length hx
        simpa using h
      by_cases hlt2 : x.size < 64
      · have hlti2 : (x.size : Int) < 64 := by omega
        have hadd : (x ++ ⟨#[0]⟩).data.toList = t.data.toList ++ List.replicate (z + 1) 0 := by
          rw [List.replicate_succ', ← List.append_assoc, ← hx, ByteArray.data_append, Array.toList_append]
        have hxz : x.size < (x ++ ⟨#[0]⟩).size := by
          rw [ByteArray.size_append]
          show x.size < x.size + 1
          omega
        have HA := Lib.hid hadd
        have HXZ := Lib.hid hxz
        have HXS := Lib.hid hxs
        clear hadd hx hxz hxs
        go_wp2
        go_roundw
        case rel => exact ⟨z + 1, _, rfl, HA.out, by have := HXS.out; omega, by trivial⟩
        case measure => have := HXZ.out; simp only [sizeOfS]; omega
      · have hlti2 : ¬ (x.size : Int) < 64 := by omega
        have hfin : x = str (keyed s.data.toList) := by
          rw [HK.out, ← str_eta x, hx]
          congr 3
          have := HT.out
          omega
        have HF := Lib.hid hfin
        clear hfin hx hxs
        go_wp2
        go_ret
        exact ⟨by rw [HF.out]; rfl, HB1.out⟩
  · have hlti : ¬ (64 : Int) < (s.size : Int) := by omega
    have hk := keyed_short s.data.toList (show ¬ 64 < s.data.toList.length from hlt)
    have HK := Lib.hid hk
    clear hk
    go_wp2
    go_loopw [0] (fun a wr => ∃ (z : Nat) (x : ByteArray), a = .string x ∧ x.data.toList = s.data.toList ++ List.replicate z 0 ∧ s.size + z ≤ 64 ∧ wr = w) (fun a _ => 64 - sizeOfS a)
    case atStart => exact ⟨0, s, rfl, by simp, by omega, rfl⟩
    case round =>
      obtain ⟨z, x, rfl, hx, hz, rfl⟩ := hrel
      have hxs : x.size = s.size + z := by
        have h := congrArg List.length hx
        simpa using h
      by_cases hlt2 : x.size < 64
      · have hlti2 : (x.size : Int) < 64 := by omega
        have hadd : (x ++ ⟨#[0]⟩).data.toList = s.data.toList ++ List.replicate (z + 1) 0 := by
          rw [List.replicate_succ', ← List.append_assoc, ← hx, ByteArray.data_append, Array.toList_append]
        have hxz : x.size < (x ++ ⟨#[0]⟩).size := by
          rw [ByteArray.size_append]
          show x.size < x.size + 1
          omega
        have HA := Lib.hid hadd
        have HXZ := Lib.hid hxz
        have HXS := Lib.hid hxs
        clear hadd hx hxz hxs
        go_wp2
        go_roundw
        case rel => exact ⟨z + 1, _, rfl, HA.out, by have := HXS.out; omega, by trivial⟩
        case measure => have := HXZ.out; simp only [sizeOfS]; omega
      · have hlti2 : ¬ (x.size : Int) < 64 := by omega
        have hfin : x = str (keyed s.data.toList) := by
          rw [HK.out, ← str_eta x, hx]
          congr 3
          have : s.data.toList.length = s.size := by simp
          omega
        have HF := Lib.hid hfin
        clear hfin hx hxs
        go_wp2
        go_ret
        exact ⟨by rw [HF.out]; rfl, Below.refl _ _⟩
end Go.Proofs.Ythlppmhkdincgaa
