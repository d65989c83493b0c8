/- The statement DigestParts: whatever the list of texts, what is written in parts to a Hash has the one digest at each place, and a copy goes its own way: the law answers true. -/
import Derived.Test.YthlppmhkdincgaaK
import Derived.Test.YthlppmhkdincgaaRows
import Derived.ProofKit
import Derived.OpenShut
import Derived.SliceStrings
namespace Go.Proofs.Ythlppmhkdincgaa
open Go.RowKit Sha

/-- A slice of strings reads as a list. -/
def StrsAt (w : World) (v : Value) (ss : List ByteArray) : Prop :=
  (∃ a c, v = .slice a 0 c ∧ ss = []) ∨ ∃ g o cap, v = .slice (some ⟨g, o, none⟩) ss.length cap ∧ ss.length ≤ maxLen ∧ g < w.heap.size ∧ ∀ i, (h : i < ss.length) → w.cell? ⟨g, o + i, none⟩ = some (.string ss[i])

theorem StrsAt.len_run {w : World} {v : Value} {ss : List ByteArray} (h : StrsAt w v ss) (ty : TypeId) (W : World) :
    (Builtin.len_ #[25] ty #[v]).run Try.prog W = .ok (.int .i64 (ss.length : Int)) W := by
  rcases h with ⟨a, c, rfl, rfl⟩ | ⟨g, o, cap, rfl, hb, _⟩
  · simp [Builtin.len_, run_underlying Try.underlying25, goInt]
  · have hl : ss.length ≤ 9223372036854775807 := by unfold maxLen at hb; omega
    simp [Builtin.len_, run_underlying Try.underlying25, goInt]
theorem StrsAt.size_le {w : World} {v : Value} {ss : List ByteArray} (h : StrsAt w v ss) : ss.length ≤ maxLen := by
  rcases h with ⟨a, c, rfl, rfl⟩ | ⟨g, o, cap, rfl, hb, _⟩
  · simp [maxLen]
  · exact hb
theorem StrsAt.form {w : World} {v : Value} {ss : List ByteArray} (h : StrsAt w v ss) (k : Nat) (hk : k < ss.length) :
    ∃ g o cap, v = .slice (some ⟨g, o, none⟩) ss.length cap ∧ g < w.heap.size ∧ w.cell? ⟨g, o + k, none⟩ = some (.string ss[k]) := by
  rcases h with ⟨a, c, rfl, rfl⟩ | ⟨g, o, cap, rfl, hb, hg, hc⟩
  · simp at hk
  · exact ⟨g, o, cap, rfl, hg, hc k hk⟩

theorem sum_text (b : Nat) (t : List UInt8) (D : ByteArray) (w : World) (h : HashAt w b t) (hbd : t.length ≤ 1073741824) (hD : D = str (sha t)) :
    Calls Try.prog 15 #[.pointer (some ⟨b, 0, none⟩)] w fun e w' => e = .returned (.string D) ∧ Below w.heap.size w w' := by
  rw [hD]; exact sum_any b t w h hbd
theorem of_text (s : ByteArray) (t : List UInt8) (D : ByteArray) (w : World) (hs : s.data.toList = t) (hbd : t.length ≤ 1073741824) (hD : D = str (sha t)) :
    Calls Try.prog 10 #[.string s] w fun e w' => e = .returned (.string D) ∧ Below w.heap.size w w' := by
  rw [hD, ← hs]; exact of_any s w (by rw [← hs] at hbd; simpa using hbd)
theorem len_text (b : Nat) (t : List UInt8) (n : Int) (w : World) (h : HashAt w b t) (hn : (t.length : Int) = n) :
    Calls Try.prog 16 #[.pointer (some ⟨b, 0, none⟩)] w fun e w' => e = .returned (.int .i64 n) ∧ w = w' := by
  rw [← hn]; exact len_any b t w h
theorem sha_length (t : List UInt8) : (sha t).length = 32 := by simp [sha, St.bytes, four]

def other : ByteArray := ⟨#[111, 116, 104, 101, 114]⟩

set_option maxHeartbeats 2000000 in
theorem digestParts_walk (v : Value) (ss : List ByteArray) (w : World) (hS : StrsAt w v ss) : Calls Try.prog 4 #[v] w fun e w' => e = .returned (.bool true) ∧ Below w.heap.size w w' := by
  have hlr := hS.len_run
  have hsz := hS.size_le
  unfold maxLen at hsz
  go_enter Try.func4, Try.ntmps4
  go_wp2_with fail
  refine (new_any _).mono ?_
  rintro e w' ⟨rfl, rfl⟩
  have hh := HashAt.new w (.cells (St.cells first) 36)
  have hb1 : Below w.heap.size w ((w.alloc (.cells (St.cells first) 36)).alloc (.cells (hcells first (.slice none 0 0) 0) 38)) := ((Below.refl _ _).alloc (Nat.le_refl _) _).alloc (by simp) _
  generalize (w.alloc (.cells (St.cells first) 36)).alloc (.cells (hcells first (.slice none 0 0) 0) 38) = w1 at *
  obtain ⟨b, hb⟩ : ∃ b, b = w.heap.size + 1 := ⟨_, rfl⟩
  rw [← hb] at hh
  rw [← hb]
  have HB := Lib.hid hb
  have HH := Lib.hid hh
  have HB1 := Lib.hid hb1
  clear hb hh hb1
  go_wp2_with fail
  go_loopw [4, 5, 6] (fun s i _ wr => ∃ (k : Nat) (sv : ByteArray), k ≤ ss.length ∧ k ≤ 12 ∧ i = .int .i64 k ∧ s = .string sv ∧ sv.size ≤ 400 * k ∧ HashAt wr b sv.data.toList ∧ Below w.heap.size w wr) (fun _ i _ _ => 12 - (intOf i).toNat)
  case atStart => exact ⟨0, ⟨#[]⟩, by omega, by omega, rfl, rfl, by decide, HH.out, HB1.out⟩
  case round =>
    obtain ⟨k, sv, hk, hk12, rfl, rfl, hsv, hh, hb⟩ := hrel
    have H0 := Lib.hid hh
    have B0 := Lib.hid hb
    clear hh hb
    by_cases hlt : k < ss.length
    · by_cases h12 : k < 12
      · obtain ⟨g, o, cap, rfl, hg, hc⟩ := hS.form k hlt
        have hcr : wr.cell? ⟨g, o + k, none⟩ = some (.string ss[k]) := (B0.out.cell (p := ⟨g, o + k, none⟩) hg).trans hc
        generalize hx : ss[k] = x at *
        have HX := Lib.hid hx
        clear hx hc
        by_cases h400 : x.size ≤ 400
        · have hTl : sv.data.toList.length = sv.size := by simp
          obtain ⟨T, hT⟩ : ∃ T, T = sv.data.toList := ⟨_, rfl⟩
          rw [← hT] at hTl
          have hxl : x.data.toList.length = x.size := by simp
          have HT := Lib.hid hT
          have HTL := Lib.hid hTl
          have HXL := Lib.hid hxl
          clear hT hTl hxl
          have hs1 : sv.size ≤ 4800 := by omega
          obtain ⟨D1, hD1⟩ : ∃ D, D = str (sha (T ++ [111, 116, 104, 101, 114])) := ⟨_, rfl⟩
          obtain ⟨D2, hD2⟩ : ∃ D, D = str (sha (T ++ x.data.toList)) := ⟨_, rfl⟩
          have hz2 : D2.size = 32 := by rw [hD2, str_size, sha_length]
          have hz2i : (D2.size : Int) = 32 := by omega
          have HD1 := Lib.hid hD1
          have HD2 := Lib.hid hD2
          clear hD1 hD2 hz2
          go_wp2_with fail
          refine (copy_any b T wr (by rw [HT.out]; exact H0.out)).mono ?_
          rintro e w3 ⟨rfl, hc3, hb3⟩
          have hlb := H0.out.lt
          have h3 : Two w b wr.heap.size T T w3 := ⟨(show HashAt wr b T by rw [HT.out]; exact H0.out).below hb3, hc3, by omega, B0.out.trans (hb3.mono B0.out.size), by have := HB.out; omega, B0.out.size⟩
          obtain ⟨c, hcc⟩ : ∃ c, c = wr.heap.size := ⟨_, rfl⟩
          rw [← hcc] at h3
          rw [← hcc]
          have H3 := Lib.hid h3
          have d3 : w3.cell? ⟨g, o + k, none⟩ = some (.string x) := (H3.out.kept.cell (p := ⟨g, o + k, none⟩) hg).trans (by rw [← B0.out.cell (p := ⟨g, o + k, none⟩) hg]; exact hcr)
          clear h3 hcc hc3 hb3 hlb hcr
          go_wp2_with fail
          refine (write_any b T x w3 H3.out.one (by rw [HTL.out]; omega)).mono ?_
          rintro e w4 ⟨rfl, hh4, hg4⟩
          have H4 := Lib.hid (H3.out.write1 hh4 hg4)
          clear hh4 hg4
          go_wp2_with fail
          refine (write_any c T _ w4 H4.out.two (by rw [HTL.out, show (⟨#[111, 116, 104, 101, 114]⟩ : ByteArray).size = 5 from rfl]; omega)).mono ?_
          rintro e w5 ⟨rfl, hh5, hg5⟩
          have H5 := Lib.hid (show Two w b c (T ++ x.data.toList) (T ++ [111, 116, 104, 101, 114]) w5 from H4.out.write2 hh5 hg5)
          clear hh5 hg5
          go_wp2_with fail
          refine (sum_text c _ D1 w5 H5.out.two (by rw [List.length_append, HTL.out]; simp; omega) HD1.out).mono ?_
          rintro e w6 ⟨rfl, hb6⟩
          have H6 := Lib.hid (H5.out.below hb6)
          clear hb6
          go_wp2_with fail
          refine (of_text _ (T ++ [111, 116, 104, 101, 114]) D1 w6 (by rw [HT.out]; simp) (by rw [List.length_append, HTL.out]; simp; omega) HD1.out).mono ?_
          rintro e w7 ⟨rfl, hb7⟩
          have H7 := Lib.hid (H6.out.below hb7)
          clear hb7
          go_wp2_with fail
          refine (len_text c _ ((sv.size : Int) + 5) w7 H7.out.two (by rw [List.length_append, HTL.out]; simp)).mono ?_
          rintro e w8 ⟨rfl, rfl⟩
          have d7 : w7.cell? ⟨g, o + k, none⟩ = some (.string x) := (H7.out.kept.cell (p := ⟨g, o + k, none⟩) hg).trans (by rw [← H3.out.kept.cell (p := ⟨g, o + k, none⟩) hg]; exact d3)
          go_wp2_with fail
          refine (sum_text b _ D2 w7 H7.out.one (by rw [List.length_append, HTL.out, HXL.out]; omega) HD2.out).mono ?_
          rintro e w9 ⟨rfl, hb9⟩
          have H9 := Lib.hid (H7.out.below hb9)
          clear hb9
          go_wp2_with fail
          refine (of_text _ (T ++ x.data.toList) D2 w9 (by rw [HT.out]; simp) (by rw [List.length_append, HTL.out, HXL.out]; omega) HD2.out).mono ?_
          rintro e w10 ⟨rfl, hb10⟩
          have H10 := Lib.hid (H9.out.below hb10)
          clear hb10
          go_wp2_with fail
          refine (len_text b _ ((sv.size : Int) + (x.size : Int)) w10 H10.out.one (by rw [List.length_append, HTL.out, HXL.out]; omega)).mono ?_
          rintro e w11 ⟨rfl, rfl⟩
          have hsl : (sv ++ x).size = sv.size + x.size := by simp
          go_wp2_with fail
          refine (sum_text b _ D2 w10 H10.out.one (by rw [List.length_append, HTL.out, HXL.out]; omega) HD2.out).mono ?_
          rintro e w12 ⟨rfl, hb12⟩
          have H12 := Lib.hid (H10.out.below hb12)
          clear hb12
          go_wp2
          go_roundw
          case rel => exact ⟨k + 1, sv ++ x, by omega, by omega, by go_num, rfl, by rw [hsl]; omega, by have := H12.out.one; rw [HT.out] at this; simpa using this, H12.out.kept⟩
          case measure => simp [intOf]; omega
        · have hgt : (400 : Int) < (x.size : Int) := by omega
          go_wp2_with fail
          refine (known_any wr).mono ?_
          rintro e w3 ⟨rfl, hb3⟩
          have HB3 := Lib.hid hb3
          clear hb3
          go_wp2
          go_ret
          exact ⟨rfl, B0.out.trans (HB3.out.mono B0.out.size)⟩
      · have h12i : (12 : Int) ≤ (k : Int) := by omega
        have hd : decide ((k : Int) < 12) = false := by simp; omega
        have hlti : (k : Int) < (ss.length : Int) := by omega
        go_wp2_with fail
        refine (known_any wr).mono ?_
        rintro e w3 ⟨rfl, hb3⟩
        have HB3 := Lib.hid hb3
        clear hb3
        go_wp2
        go_ret
        exact ⟨rfl, B0.out.trans (HB3.out.mono B0.out.size)⟩
    · have hd : decide (k < ss.length) = false := by simp; omega
      go_wp2_with fail
      refine (known_any wr).mono ?_
      rintro e w3 ⟨rfl, hb3⟩
      have HB3 := Lib.hid hb3
      clear hb3
      go_wp2
      go_ret
      exact ⟨rfl, B0.out.trans (HB3.out.mono B0.out.size)⟩
end Go.Proofs.Ythlppmhkdincgaa

namespace Go.Proofs.Ythlppmhkdincgaa.digestParts
open Go.ChangeShapes Go.WideShapes Go.ChangeAt Go.RowKit

theorem own : ownKnob Try.prog.godebug = none := by kernel_rfl
theorem laidOut : laidOutB Try.prog = true := by kernel_rfl
theorem cells9 : Try.prog.cellsOf 9 = 1 := by kernel_rfl

set_option maxRecDepth 100000 in
theorem lifted (os : Os) (started : os.Started) (H : Type) (enc : TypeId × Value → H) :
    ReturnsInHanded {} Try.checked os 4 .any (Rows.digestPartsSpec.pre6 enc Try.prog Try.f4 Rows.digestPartsRow.domain false) (Rows.digestPartsSpec.post enc Try.prog Try.f4 false true false false) := by
  refine returnsInHanded_of_change (C := Try.checked) own started (by kernel_rfl) Try.func4
    (ChangeSpec.witness6 (enc := enc) (C := Try.checked) false ⟨#[], #[.slice none 0 0], []⟩ 8 (by kernel_rfl) (by kernel_rfl) (by kernel_rfl) (by kernel_rfl)) ?_
  intro W base args ds gs before hval0 hW hcnd _
  have hval : ∀ (j : Nat) t v, Try.f4.params[j]? = some t → args[j]? = some v → Value.okWide Try.prog W .any base t v := hval0
  have hW' := hW
  obtain ⟨p, q, hA0, hV, rfl, hfz, hnd⟩ := hW
  have hA : DataW.TrodAll enc Try.prog W 0 (fun _ => true) true Try.f4.params.toList args.toList ds p := hA0
  rw [Try.params4] at hA hval
  obtain ⟨v0, d0, rfl, rfl, h0⟩ := trodAll_one hA
  obtain ⟨rfl, rfl⟩ := trodVars_none hV
  have h0k := h0
  obtain ⟨a0, len, cap, rfl⟩ := okWide_slice Try.underlying25 (hval 0 25 v0 rfl rfl)
  obtain ⟨fuel, hf⟩ := h0
  have hlt : ∀ x ∈ p, x.block < W.heap.size := fun x hx => by simpa using hW'.lt x (by simpa using hx)
  clear hA0 hval0
  have fin : ∀ ss, StrsAt W (.slice a0 len cap) ss → Calls Try.checked.prog 4 #[.slice a0 len cap] W fun e W' => ∃ v, e = Ending.returned v ∧ Rows.digestPartsSpec.post enc Try.checked.prog Try.f4 false true false false W #[.slice a0 len cap] v W' := by
    intro ss hS
    refine (digestParts_walk _ ss W hS).mono fun e W' ⟨he, hb⟩ => ?_
    subst he
    exact ⟨_, rfl, ⟨_, _, _, [], p, [], hW', trodAll_mk1 (shut_bool Try.underlying4 _), trodAll_mk1 (Below.trod laidOut (by kernel_rfl) (of_decide_eq_true (by kernel_rfl)) h0k hb hlt), rfl, hb.frame _, fun h => by cases h⟩⟩
  rcases open_strings Try.underlying25 Try.underlying9 cells9 hf with ⟨hcs, hx⟩ | ⟨a, len', cap', ss, hcs, _, hl, hm, hz, hx, hcell, hws⟩
  · simp [Value.cells] at hcs
    obtain ⟨rfl, rfl, rfl⟩ := hcs
    exact fin [] (.inl ⟨none, 0, rfl, rfl⟩)
  · simp [Value.cells] at hcs
    obtain ⟨rfl, rfl, rfl⟩ := hcs
    simp only [Prod.mk.injEq] at hx
    obtain ⟨_, rfl⟩ := hx
    simp only [if_true] at hz
    by_cases hl0 : len = 0
    · subst hl0
      exact fin [] (.inl ⟨_, _, rfl, rfl⟩)
    · obtain ⟨b, off, spot⟩ := a
      have hspot : spot = none := by simpa [Addr.add] using World.cell?_spot (hcell 0 (by omega))
      subst hspot
      have hbW : b < W.heap.size := hlt (.cell b off) (MemPlace.mem_row.2 ⟨0, by omega, by simp⟩)
      have hlen : (ss.take len).length = len := by simp; omega
      refine fin (ss.take len) (.inr ⟨b, off, cap, by rw [hlen], by rw [hlen]; omega, hbW, fun i hi => ?_⟩)
      rw [hlen] at hi
      have := hcell i (by omega)
      rw [Addr.add_mid] at this
      rw [this]
      simp [List.getD, show i < ss.length by omega]

theorem proved : Rows.DigestPartsSaid :=
  OpenClaim.holds_of_wide 4 Try.f4 rfl rfl rfl rfl rfl rfl rfl ⟨rfl, rfl, rfl, rfl, rfl⟩ rfl rfl rfl rfl rfl (by kernel_rfl) Try.func4 (by kernel_rfl)
    (of_decide_eq_true (by kernel_rfl)) (by unfold Func.isWrapper; first | (rw [if_pos (by decide +kernel)]; kernel_rfl) | (rw [if_neg (by decide +kernel)]; exact ⟨rfl, rfl⟩))
    (fun os started H enc _ => lifted os started H enc)
#print axioms proved
end Go.Proofs.Ythlppmhkdincgaa.digestParts
