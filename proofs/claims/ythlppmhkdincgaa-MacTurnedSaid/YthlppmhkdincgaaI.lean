/- The digest of what was written, and of a text: what 'Sum' and 'Of' answer. -/
import Derived.Test.YthlppmhkdincgaaH
namespace Go.Proofs.Ythlppmhkdincgaa
open Go.RowKit Sha

theorem ending_length (n : Nat) : (ending n).length ≤ 73 := by
  have := zeros_lt n
  simp [ending, eight_length]
  omega

set_option maxHeartbeats 1000000 in
theorem sum_any (b : Nat) (t : List UInt8) (w : World) (h : HashAt w b t) (hbd : t.length ≤ 1073741824) :
    Calls Try.prog 15 #[.pointer (some ⟨b, 0, none⟩)] w fun e w' => e = .returned (.string (str (sha t))) ∧ Below w.heap.size w w' := by
  have hm := h.made
  have hlt := h.lt
  have H := Lib.hid h
  obtain ⟨r, h1, h2⟩ := h
  have h3 := h2.one
  obtain ⟨w1, hw1⟩ : ∃ w1, w1 = w.alloc (.cells (hcells (blocks t (t.length / 64)) r t.length) 38) := ⟨_, rfl⟩
  have hb1 : Below w.heap.size w w1 := by rw [hw1]; exact (Below.refl _ _).alloc (Nat.le_refl _) _
  have hh1 : HashAt w1 w.heap.size t := by rw [hw1]; exact ⟨r, heap_alloc_new _ _, h2.below ((Below.refl _ _).alloc (Nat.le_refl _) _)⟩
  have cn : w1.cell? ⟨b, 10, none⟩ = some (.int .i64 (t.length : Int)) := (hb1.cell (p := ⟨b, 10, none⟩) hlt).trans (cell_of_row w b 10 _ 38 (0, 0) h1)
  have H1 := Lib.hid h1
  have H3 := Lib.hid h3
  have HH1 := Lib.hid hh1
  have HB1 := Lib.hid hb1
  have HW1 := Lib.hid hw1
  clear h1 h2 h3 hh1 hb1 hw1
  go_enter Try.func15, Try.ntmps15
  go_wp2_with (first
    | (go_at_call 28; refine (there_true b _ hm).mono ?_; rintro e w' ⟨rfl, rfl⟩)
    | ((with_reducible show wpList _ _ _ (⟨some 9, .load 38 _, _, _, _, _⟩ :: _) _ _); refine wpList_load_row rfl 38 _ rfl b rfl 38 _ (0, 0) _ H1.out Try.underlying38 rfl Try.size38 ?_)
    | ((with_reducible show wpList _ _ _ (⟨some 3, .alloc 38, _, _, _, _⟩ :: _) _ _); refine wpList_alloc_at rfl 38 rfl hzero Try.zero38 w.heap.size rfl ?_)
    | ((with_reducible show wpList _ _ _ (⟨none, .store 38 _ _, _, _, _, _⟩ :: _) _ _); refine wpList_store_row rfl 38 _ _ rfl w.heap.size _ rfl rfl 38 hzero (heap_alloc_new _ _) Try.size38 rfl (hcells_one _ _ _ H3.out) ?_; rw [setRow_alloc, ← HW1.out])
    | (go_at_call 30; refine (ending_any t.length (by omega) w1).mono ?_; rintro e w2 ⟨v, rfl, hbv, hb2⟩; have hconv := run_convert_bytes w2 v _ hbv; have hh2 := HH1.out.below hb2; have HB2 := Lib.hid hb2; have HH2 := Lib.hid hh2; have HBV := Lib.hid hbv; clear hb2 hh2 hbv)
    | (go_at_call 14; refine (write_any w.heap.size t (str (ending t.length)) w2 HH2.out (by have := ending_length t.length; rw [str_size]; omega)).mono ?_; rintro e w3 ⟨rfl, hh3, hg3⟩; have hh3' := hh3; obtain ⟨r3, hr3, _⟩ := hh3'; obtain ⟨st, hst⟩ : ∃ st, st = blocks (t ++ (str (ending t.length)).data.toList) ((t ++ (str (ending t.length)).data.toList).length / 64) := ⟨_, rfl⟩; rw [← hst] at hr3; have HST := Lib.hid hst; clear hst; obtain ⟨c1, c2, c3, c4, c5, c6, c7, c8⟩ := cells8 hr3; have HH3 := Lib.hid hh3; have HG3 := Lib.hid hg3; clear hh3 hg3 hr3)
    | (go_at_call 31; refine (text_any st _).mono ?_; rintro e w4 ⟨rfl, hb4⟩; have HB4 := Lib.hid hb4; clear hb4))
  go_ret
  have hb3 : Below w.heap.size w w3 := (HB1.out.trans (HB2.out.mono HB1.out.size)).grown HG3.out (Nat.le_trans HB1.out.size HB2.out.size) (fun k hk => by simp at hk; omega)
  refine ⟨?_, hb3.trans (HB4.out.mono hb3.size)⟩
  rw [HST.out, str_data]
  rfl

set_option maxHeartbeats 1000000 in
theorem of_any (s : ByteArray) (w : World) (hs : s.size ≤ 1073741824) :
    Calls Try.prog 10 #[.string s] w fun e w' => e = .returned (.string (str (sha s.data.toList))) ∧ Below w.heap.size w w' := by
  have hl : s.data.toList.length = s.size := by simp
  have HL := Lib.hid hl
  clear hl
  go_enter Try.func10, Try.ntmps10
  go_wp2_with (first
    | (go_at_call 12; refine (new_any _).mono ?_; rintro e w' ⟨rfl, rfl⟩; have hh := HashAt.new w (.cells (St.cells first) 36); have hb1 : Below w.heap.size w ((w.alloc (.cells (St.cells first) 36)).alloc (.cells (hcells first (.slice none 0 0) 0) 38)) := ((Below.refl _ _).alloc (Nat.le_refl _) _).alloc (by simp) _; generalize (w.alloc (.cells (St.cells first) 36)).alloc (.cells (hcells first (.slice none 0 0) 0) 38) = w1 at *; have HH := Lib.hid hh; have HB1 := Lib.hid hb1; clear hh hb1)
    | (go_at_call 14; refine (write_any _ [] s w1 HH.out (by simp; omega)).mono ?_; rintro e w2 ⟨rfl, hh2, hg2⟩; have HH2 := Lib.hid hh2; have HG2 := Lib.hid hg2; clear hh2 hg2)
    | (go_at_call 15; refine (sum_any _ s.data.toList w2 HH2.out (by rw [HL.out]; omega)).mono ?_; rintro e w3 ⟨rfl, hb3⟩; have HB3 := Lib.hid hb3; clear hb3))
  go_ret
  have hb2 : Below w.heap.size w w2 := HB1.out.grown HG2.out HB1.out.size (fun k hk => by simp at hk; omega)
  exact ⟨rfl, hb2.trans (HB3.out.mono hb2.size)⟩
end Go.Proofs.Ythlppmhkdincgaa
