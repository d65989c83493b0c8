/- Bytes of the call's own that are written one by one; a text written byte by byte. -/
import Derived.Test.YthlppmhkdincgaaK
import Derived.Test.YthlppmhkdincgaaP
namespace Go.Proofs.Ythlppmhkdincgaa
open Go.RowKit Sha

/-- A row of bytes that may be written. -/
def ByteRow (w : World) (g : Nat) (l : List UInt8) (cap : Nat) : Prop :=
  ∃ cur fr, w.heap[g]? = some (.cells cur 5 fr) ∧ (∀ j, j < cur.size → (decide (fr.1 ≤ j) && decide (j < fr.2)) = false) ∧ l.length ≤ cap ∧ cap ≤ maxLen ∧ cur.size = cap ∧ cur.toList.take l.length = l.map u8v

theorem ByteRow.cell {w : World} {g cap : Nat} {l : List UInt8} (h : ByteRow w g l cap) (i : Nat) (hi : i < l.length) : w.cell? ⟨g, i, none⟩ = some (u8v l[i]) ∧ w.frozen? ⟨g, i, none⟩ = false := by
  obtain ⟨cur, fr, hh, hf, h1, h2, h3, h4⟩ := h
  refine ⟨?_, ?_⟩
  · rw [cell_of_row w g _ cur 5 fr hh]
    have e : (cur.toList.take l.length)[i]? = some (u8v l[i]) := by rw [h4]; simp [hi]
    rw [List.getElem?_take, if_pos hi] at e
    simpa using e
  · simp only [World.frozen?, hh]
    exact hf i (by omega)

theorem ByteRow.bytes {w : World} {g cap : Nat} {l : List UInt8} (h : ByteRow w g l cap) : BytesAt w (.slice (some ⟨g, 0, none⟩) l.length cap) l := by
  obtain ⟨cur, fr, hh, hf, h1, h2, h3, h4⟩ := h
  exact OwnB.bytes (base := 0) ⟨g, cap, cur, fr, rfl, Nat.zero_le _, hh, hf, h1, h2, h3, h4⟩

theorem ByteRow.set {w : World} {g cap : Nat} {l : List UInt8} (h : ByteRow w g l cap) (i : Nat) (hi : i < l.length) (c : UInt8) : ByteRow (w.setCell ⟨g, i, none⟩ (u8v c)) g (l.set i c) cap := by
  obtain ⟨cur, fr, hh, hf, h1, h2, h3, h4⟩ := h
  refine ⟨cur.setIfInBounds i (u8v c), fr, by simp [World.setCell, Array.getElem?_modify, hh], fun j hj => hf j (by simpa using hj), by simpa using h1, h2, by simpa using h3, ?_⟩
  rw [List.length_set, Array.toList_setIfInBounds, List.take_set, h4, List.map_set]

theorem ByteRow.of_own {w : World} {base g n cap : Nat} {l : List UInt8} (h : w.ownsRow base 5 1 (.slice (some ⟨g, 0, none⟩) n cap) n (l.map u8v)) : ByteRow w g l cap ∧ base ≤ g ∧ l.length = n := by
  obtain ⟨hl, h⟩ := h
  have hn : l.length = n := by simpa using hl
  rcases h with ⟨h0, _⟩ | ⟨g', cap', cur, hv, hg, hh, h1, h2, h3, h4⟩
  · cases h0
  · cases hv
    exact ⟨⟨cur, (0, 0), hh, fun j _ => by simp, by omega, h2, by omega, by rw [hn]; simpa using h4⟩, hg, hn⟩

theorem made_zero (n : Nat) : (madeCells #[Value.int IntKind.u8 0] n).toList = (List.replicate n (0 : UInt8)).map u8v := by
  apply List.ext_getElem?
  intro k
  simp only [madeCells, List.map_replicate, Array.toList_map, Array.toList_range, List.getElem?_map, List.getElem?_replicate]
  by_cases hk : k < n
  · simp [hk, u8v, Nat.mod_one]
  · simp [hk]

theorem extract_take (s : ByteArray) (k : Nat) : s.data.toList.take k ++ (s.extract k (k + 1)).data.toList = s.data.toList.take (k + 1) := by
  rw [ByteArray.data_extract, Array.toList_extract, List.extract_eq_take_drop]
  rw [Nat.add_sub_cancel_left, List.take_add]

set_option maxHeartbeats 1000000 in
theorem digestEnds_walk (n : Nat) (c : UInt8) (hn : n < 256) (w : World) : Calls Try.prog 5 #[.int .u8 (n : Int), .int .u8 (c.toNat : Int)] w fun e w' => e = .returned (.bool true) ∧ Below w.heap.size w w' := by
  obtain ⟨i0, hi, hz0, hz1, hz2⟩ := info_parts Try.info5
  go_enter Try.func5, Try.ntmps5
  have en : IntKind.i64.wrap (n : Int) = (n : Int) := IntWalk.i64_in _ (by omega)
  go_wp2_with ((with_reducible show wpList _ _ _ (⟨some 12, .makeSlice _ _ _, _, _, _, _⟩ :: _) _ _); refine wpList_make_full _ rfl _ _ 32 rfl w.heap.size 5 i0 (.int .u8 0) 1 Try.underlying32 hi hz0 hz1 _ _ _ _ n rfl rfl (by omega) (by omega) (by rw [hz2]; omega) (by unfold maxLen; omega) (Nat.le_refl _) ?_)
  intro w1 hown hgrow
  have hb1 : Below w.heap.size w w1 := (Below.refl _ _).grown hgrow (Nat.le_refl _) (fun k hk => by cases hk)
  have e0 : (madeCells #[Value.int IntKind.u8 0] n).toList = (List.replicate n (0 : UInt8)).map u8v := made_zero n
  rw [e0] at hown
  have hrow := (ByteRow.of_own hown).1
  have HR := Lib.hid hrow
  have HB1 := Lib.hid hb1
  clear hown hgrow hrow hb1
  go_wp2
  go_loopw [6] (fun a wr => ∃ i : Nat, i ≤ n ∧ a = .int .i64 i ∧ ByteRow wr w.heap.size (List.replicate i c ++ List.replicate (n - i) 0) n ∧ Below w.heap.size w wr) (fun a _ => n - (intOf a).toNat)
  case atStart => exact ⟨0, Nat.zero_le _, rfl, by simpa using HR.out, HB1.out⟩
  case round =>
    obtain ⟨i, hin, rfl, hrow, hb⟩ := hrel
    by_cases hlt : i < n
    · have hlti : (i : Int) < (n : Int) := by omega
      obtain ⟨hc, hf⟩ := hrow.cell i (by simp; omega)
      have hset := hrow.set i (by simp; omega) c
      have hbs := hb.setCell (p := ⟨w.heap.size, i, none⟩) (Nat.le_refl _) (u8v c)
      have HS := Lib.hid hset
      have HBS := Lib.hid hbs
      clear hset hbs hrow
      go_wp2
      go_roundw
      case rel =>
        refine ⟨i + 1, by omega, by go_num, ?_, HBS.out⟩
        have e : (List.replicate i c ++ List.replicate (n - i) 0).set i c = List.replicate (i + 1) c ++ List.replicate (n - (i + 1)) 0 := by
          rw [List.set_append_right _ _ (by simp), show n - i = (n - (i + 1)) + 1 by omega, List.replicate_succ]
          simp [List.replicate_succ']
        rw [← e]
        exact HS.out
      case measure => simp [intOf]; omega
    · obtain rfl : i = n := by omega
      have hconv := run_convert_bytes wr _ _ hrow.bytes
      obtain ⟨s, hs⟩ : ∃ s, s = str (List.replicate i c ++ List.replicate (i - i) 0) := ⟨_, rfl⟩
      rw [← hs] at hconv
      have hsz : s.size = i := by rw [hs, str_size]; simp
      have hll : (List.replicate i c ++ List.replicate (i - i) 0).length = i := by simp
      rw [hll] at hconv
      have HSS := Lib.hid hs
      have HB := Lib.hid hb
      clear hs hll hb hrow
      go_wp2_with (go_at_call 12; refine (new_any _).mono ?_; rintro e w' ⟨rfl, rfl⟩)
      have hh := HashAt.new wr (.cells (St.cells first) 36)
      have hbn : Below w.heap.size w ((wr.alloc (.cells (St.cells first) 36)).alloc (.cells (hcells first (.slice none 0 0) 0) 38)) := (HB.out.alloc HB.out.size _).alloc (by have := HB.out.size; simp; omega) _
      obtain ⟨b, hbq⟩ : ∃ b, b = wr.heap.size + 1 := ⟨_, rfl⟩
      have hbw : w.heap.size ≤ b := by have := HB.out.size; omega
      rw [← hbq] at hh ⊢
      generalize (wr.alloc (.cells (St.cells first) 36)).alloc (.cells (hcells first (.slice none 0 0) 0) 38) = w2 at *
      have HH := Lib.hid hh
      have HBN := Lib.hid hbn
      clear hh hbn hbq
      go_loopw [9] (fun a wj => ∃ k : Nat, k ≤ i ∧ a = .int .i64 k ∧ HashAt wj b (s.data.toList.take k) ∧ Below w.heap.size w wj) (fun a _ => i - (intOf a).toNat)
      case atStart => exact ⟨0, Nat.zero_le _, rfl, HH.out, HBN.out⟩
      case round =>
        obtain ⟨k, hk, rfl, hh, hb⟩ := hrel
        by_cases hltk : k < i
        · have hlti : (k : Int) < (s.size : Int) := by omega
          have h1 : IntKind.i64.wrap ((k : Int) + 1) = ((k + 1 : Nat) : Int) := by rw [IntWalk.i64_in _ (by omega)]; omega
          have hx : s.data.toList.take k ++ (s.extract k (k + 1)).data.toList = s.data.toList.take (k + 1) := extract_take s k
          have hxs : (s.extract k (k + 1)).size ≤ s.size := by rw [ByteArray.size_extract]; omega
          have HX := Lib.hid hx
          have HXS := Lib.hid hxs
          have HHK := Lib.hid hh
          have HBK := Lib.hid hb
          clear hx hxs hh hb
          go_wp2_with fail
          refine (write_any b _ _ _ HHK.out (by have := HXS.out; have := hsz; simp; omega)).mono ?_
          rintro e w' ⟨rfl, hh', hg'⟩
          rw [HX.out] at hh'
          have HH' := Lib.hid hh'
          have HB' := Lib.hid (HBK.out.grown hg' HBK.out.size (fun j hj => by cases hj; exact hbw))
          clear hh' hg'
          go_wp2
          go_roundw
          case rel => exact ⟨k + 1, by omega, by go_num, HH'.out, HB'.out⟩
          case measure => simp [intOf]; omega
        · obtain rfl : k = i := by omega
          have ht : s.data.toList.take k = s.data.toList := List.take_of_length_le (by simp [hsz])
          rw [ht] at hh
          have HHK := Lib.hid hh
          have HBK := Lib.hid hb
          have hsl : s.data.toList.length = s.size := by simp
          clear hh hb ht
          go_wp2_with fail
          refine (of_any s _ (by omega)).mono ?_
          rintro e w3 ⟨rfl, hb3⟩
          have H3 := Lib.hid (HBK.out.trans (hb3.mono HBK.out.size))
          have HH3 := Lib.hid (HHK.out.below hb3)
          clear hb3
          go_wp2_with fail
          refine (refOf_any s _ (by omega)).mono ?_
          rintro e w4 ⟨rfl, hb4⟩
          have H4 := Lib.hid (H3.out.trans (hb4.mono H3.out.size))
          have HH4 := Lib.hid (HH3.out.below hb4)
          clear hb4
          go_wp2_with fail
          refine (sum_any b s.data.toList _ HH4.out (by omega)).mono ?_
          rintro e w5 ⟨rfl, hb5⟩
          have H5 := Lib.hid (H4.out.trans (hb5.mono H4.out.size))
          clear hb5
          go_wp2_with fail
          refine (refOf_any s _ (by omega)).mono ?_
          rintro e w6 ⟨rfl, hb6⟩
          have H6 := Lib.hid (H5.out.trans (hb6.mono H5.out.size))
          clear hb6
          go_wp2_with fail
          refine (known_any _).mono ?_
          rintro e w7 ⟨rfl, hb7⟩
          have H7 := Lib.hid (H6.out.trans (hb7.mono H6.out.size))
          clear hb7
          go_wp2
          go_ret
          exact ⟨rfl, H7.out⟩
end Go.Proofs.Ythlppmhkdincgaa
