/- What must come of fixed calls of the digest: 'known' answers true. -/
import Derived.Test.YthlppmhkdincgaaJ
namespace Go.Proofs.Ythlppmhkdincgaa
open Go.RowKit Sha

def dAbc : ByteArray := str (sha [97, 98, 99])
def dNone : ByteArray := str (sha [])
def xAbc : ByteArray := ⟨#[98, 97, 55, 56, 49, 54, 98, 102, 56, 102, 48, 49, 99, 102, 101, 97, 52, 49, 52, 49, 52, 48, 100, 101, 53, 100, 97, 101, 50, 50, 50, 51, 98, 48, 48, 51, 54, 49, 97, 51, 57, 54, 49, 55, 55, 97, 57, 99, 98, 52, 49, 48, 102, 102, 54, 49, 102, 50, 48, 48, 49, 53, 97, 100]⟩
def xNone : ByteArray := ⟨#[101, 51, 98, 48, 99, 52, 52, 50, 57, 56, 102, 99, 49, 99, 49, 52, 57, 97, 102, 98, 102, 52, 99, 56, 57, 57, 54, 102, 98, 57, 50, 52, 50, 55, 97, 101, 52, 49, 101, 52, 54, 52, 57, 98, 57, 51, 52, 99, 97, 52, 57, 53, 57, 57, 49, 98, 55, 56, 53, 50, 98, 56, 53, 53]⟩

theorem xAbc_list : xAbc.toList = [98, 97, 55, 56, 49, 54, 98, 102, 56, 102, 48, 49, 99, 102, 101, 97, 52, 49, 52, 49, 52, 48, 100, 101, 53, 100, 97, 101, 50, 50, 50, 51, 98, 48, 48, 51, 54, 49, 97, 51, 57, 54, 49, 55, 55, 97, 57, 99, 98, 52, 49, 48, 102, 102, 54, 49, 102, 50, 48, 48, 49, 53, 97, 100] := by decide +kernel
theorem xNone_list : xNone.toList = [101, 51, 98, 48, 99, 52, 52, 50, 57, 56, 102, 99, 49, 99, 49, 52, 57, 97, 102, 98, 102, 52, 99, 56, 57, 57, 54, 102, 98, 57, 50, 52, 50, 55, 97, 101, 52, 49, 101, 52, 54, 52, 57, 98, 57, 51, 52, 99, 97, 52, 57, 53, 57, 57, 49, 98, 55, 56, 53, 50, 98, 56, 53, 53] := by decide +kernel

set_option maxRecDepth 100000 in
theorem hex_dAbc : str (Sha.hex dAbc.data.toList) = xAbc := by
  have : Sha.hex (sha [97, 98, 99]) = xAbc.data.toList := by decide +kernel
  unfold dAbc
  rw [str_data, this, str_eta]
set_option maxRecDepth 100000 in
theorem hex_dNone : str (Sha.hex dNone.data.toList) = xNone := by
  have : Sha.hex (sha []) = xNone.data.toList := by decide +kernel
  unfold dNone
  rw [str_data, this, str_eta]

theorem of_abc (w : World) : Calls Try.prog 10 #[.string ⟨#[97, 98, 99]⟩] w fun e w' => e = .returned (.string dAbc) ∧ Below w.heap.size w w' := of_any ⟨#[97, 98, 99]⟩ w (by decide)
theorem of_none (w : World) : Calls Try.prog 10 #[.string ⟨#[]⟩] w fun e w' => e = .returned (.string dNone) ∧ Below w.heap.size w w' := of_any ⟨#[]⟩ w (by decide)
theorem dAbc_size : dAbc.size ≤ 1073741824 := by unfold dAbc; rw [str_size]; simp [sha, St.bytes, four]
theorem dNone_size : dNone.size ≤ 1073741824 := by unfold dNone; rw [str_size]; simp [sha, St.bytes, four]
theorem hex_abc (w : World) : Calls Try.prog 22 #[.string dAbc] w fun e w' => e = .returned (.string xAbc) ∧ Below w.heap.size w w' := by
  have := hex_any dAbc w dAbc_size
  rwa [hex_dAbc] at this
theorem hex_none (w : World) : Calls Try.prog 22 #[.string dNone] w fun e w' => e = .returned (.string xNone) ∧ Below w.heap.size w w' := by
  have := hex_any dNone w dNone_size
  rwa [hex_dNone] at this

/-- The two Hashes of 'known', and that nothing that was there has turned. -/
structure Two (W : World) (b c : Nat) (t u : List UInt8) (w : World) : Prop where
  one : HashAt w b t
  two : HashAt w c u
  ne : b ≠ c
  kept : Below W.heap.size W w
  up1 : W.heap.size ≤ b
  up2 : W.heap.size ≤ c

theorem Two.below {W : World} {b c : Nat} {t u : List UInt8} {w w' : World} (h : Two W b c t u w) (hb : Below w.heap.size w w') : Two W b c t u w' :=
  ⟨h.one.below hb, h.two.below hb, h.ne, h.kept.trans (hb.mono h.kept.size), h.up1, h.up2⟩
theorem Two.write1 {W : World} {b c : Nat} {t u t' : List UInt8} {w w' : World} (h : Two W b c t u w) (h1 : HashAt w' b t') (hg : w.grownBy w' (some b)) : Two W b c t' u w' :=
  ⟨h1, h.two.other h.one h.ne.symm hg, h.ne, h.kept.grown hg h.kept.size (fun k hk => by simp at hk; have := h.up1; omega), h.up1, h.up2⟩
theorem Two.write2 {W : World} {b c : Nat} {t u u' : List UInt8} {w w' : World} (h : Two W b c t u w) (h1 : HashAt w' c u') (hg : w.grownBy w' (some c)) : Two W b c t u' w' :=
  ⟨h.one.other h.two h.ne hg, h1, h.ne, h.kept.grown hg h.kept.size (fun k hk => by simp at hk; have := h.up2; omega), h.up1, h.up2⟩

set_option maxHeartbeats 1000000 in
theorem known_any (w : World) :
    Calls Try.prog 9 #[] w fun e w' => e = .returned (.bool true) ∧ Below w.heap.size w w' := by
  go_enter Try.func9, Try.ntmps9
  go_wp2_with fail
  refine (new_any _).mono ?_
  rintro e w' ⟨rfl, rfl⟩
  have hh := HashAt.new w (.cells (St.cells first) 36)
  have hb1 : Below w.heap.size w ((w.alloc (.cells (St.cells first) 36)).alloc (.cells (hcells first (.slice none 0 0) 0) 38)) := ((Below.refl _ _).alloc (Nat.le_refl _) _).alloc (by simp) _
  generalize (w.alloc (.cells (St.cells first) 36)).alloc (.cells (hcells first (.slice none 0 0) 0) 38) = w1 at *
  obtain ⟨b, hb⟩ : ∃ b, b = w.heap.size + 1 := ⟨_, rfl⟩
  rw [← hb] at hh
  rw [← hb]
  have HB := Lib.hid hb
  have HH := Lib.hid hh
  have HB1 := Lib.hid hb1
  clear hb hh hb1
  go_wp2_with fail
  refine (write_any b [] _ w1 HH.out (by decide)).mono ?_
  rintro e w2 ⟨rfl, hh2, hg2⟩
  have hh2' : HashAt w2 b [97] := hh2
  have hb2 : Below w.heap.size w w2 := HB1.out.grown hg2 HB1.out.size (fun k hk => by simp at hk; have := HB.out; omega)
  have HH2 := Lib.hid hh2'
  have HB2 := Lib.hid hb2
  clear hh2 hh2' hg2 hb2
  go_wp2_with fail
  refine (copy_any b [97] w2 HH2.out).mono ?_
  rintro e w3 ⟨rfl, hc3, hb3⟩
  have h3 : Two w b w2.heap.size [97] [97] w3 := ⟨HH2.out.below hb3, hc3, by have := HH2.out.lt; omega, HB2.out.trans (hb3.mono HB2.out.size), by have := HB.out; omega, HB2.out.size⟩
  obtain ⟨c, hc⟩ : ∃ c, c = w2.heap.size := ⟨_, rfl⟩
  rw [← hc] at h3
  rw [← hc]
  have H3 := Lib.hid h3
  clear h3 hc hc3 hb3
  go_wp2_with fail
  refine (write_any b [97] _ w3 H3.out.one (by decide)).mono ?_
  rintro e w4 ⟨rfl, hh4, hg4⟩
  have H4 := Lib.hid (show Two w b c [97, 98, 99] [97] w4 from H3.out.write1 hh4 hg4)
  clear hh4 hg4
  go_wp2_with fail
  refine (of_abc w4).mono ?_
  rintro e w5 ⟨rfl, hb5⟩
  have H5 := Lib.hid (H4.out.below hb5)
  clear hb5
  go_wp2_with fail
  refine (hex_abc w5).mono ?_
  rintro e w6 ⟨rfl, hb6⟩
  have H6 := Lib.hid (H5.out.below hb6)
  clear hb6
  have q1 := xAbc_list
  have q2 := xNone_list
  go_wp2_with fail
  refine (of_none w6).mono ?_
  rintro e w7 ⟨rfl, hb7⟩
  have H7 := Lib.hid (H6.out.below hb7)
  clear hb7
  go_wp2_with fail
  refine (hex_none w7).mono ?_
  rintro e w8 ⟨rfl, hb8⟩
  have H8 := Lib.hid (H7.out.below hb8)
  clear hb8
  go_wp2_with fail
  refine (sum_any b [97, 98, 99] w8 H8.out.one (by decide)).mono ?_
  rintro e w9 ⟨rfl, hb9⟩
  have H9 := Lib.hid (H8.out.below hb9)
  clear hb9
  rw [show str (sha [97, 98, 99]) = dAbc from rfl]
  go_wp2_with fail
  refine (hex_abc w9).mono ?_
  rintro e w10 ⟨rfl, hb10⟩
  have H10 := Lib.hid (H9.out.below hb10)
  clear hb10
  go_wp2_with fail
  refine (len_any b [97, 98, 99] w10 H10.out.one).mono ?_
  rintro e w11 ⟨rfl, rfl⟩
  go_wp2_with fail
  refine (len_any c [97] w10 H10.out.two).mono ?_
  rintro e w11 ⟨rfl, rfl⟩
  go_wp2
  go_ret
  exact ⟨rfl, H10.out.kept⟩
end Go.Proofs.Ythlppmhkdincgaa
