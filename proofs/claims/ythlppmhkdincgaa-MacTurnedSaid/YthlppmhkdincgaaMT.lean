/- The statement MacTurned: a tag that is cut, made longer, or of which one bit is turned is not right. -/
import Derived.Test.YthlppmhkdincgaaY
import Derived.Test.YthlppmhkdincgaaRows
import Derived.ProofKit
import Derived.OpenShut
import Derived.ShutString
import Derived.Lib.SmallJoins
attribute [local go_sem ↓] Go.wp_at_zero Go.wp_at_succ
namespace Go.Proofs.Ythlppmhkdincgaa
open Go.RowKit Sha

theorem wrong_any (k s t : ByteArray) (w : World) (hk : k.size ≤ 1000000) (hs : s.size ≤ 1000000) (h : ¬ t.data.toList = tag k.data.toList s.data.toList) :
    Calls Try.prog 18 #[.string k, .string s, .string t] w fun e w' => e = .returned (.bool false) ∧ Below w.heap.size w w' := by
  refine (tagRight_any k s t w hk hs).mono ?_
  rintro e w' ⟨rfl, hb⟩
  rw [decide_eq_false h]
  exact ⟨rfl, hb⟩
theorem correct_any (k s t : ByteArray) (w : World) (hk : k.size ≤ 1000000) (hs : s.size ≤ 1000000) (h : t.data.toList = tag k.data.toList s.data.toList) :
    Calls Try.prog 18 #[.string k, .string s, .string t] w fun e w' => e = .returned (.bool true) ∧ Below w.heap.size w w' := by
  refine (tagRight_any k s t w hk hs).mono ?_
  rintro e w' ⟨rfl, hb⟩
  rw [decide_eq_true h]
  exact ⟨rfl, hb⟩

theorem one_shl (c : UInt8) : ∃ b : UInt8, b ≠ 0 ∧ (2 : Int) ^ (c.toNat % 8) % 256 = (b.toNat : Int) := by
  have hm : c.toNat % 8 < 8 := by omega
  generalize c.toNat % 8 = m at hm
  obtain rfl | rfl | rfl | rfl | rfl | rfl | rfl | rfl : m = 0 ∨ m = 1 ∨ m = 2 ∨ m = 3 ∨ m = 4 ∨ m = 5 ∨ m = 6 ∨ m = 7 := by omega
  · exact ⟨1, by decide, rfl⟩
  · exact ⟨2, by decide, rfl⟩
  · exact ⟨4, by decide, rfl⟩
  · exact ⟨8, by decide, rfl⟩
  · exact ⟨16, by decide, rfl⟩
  · exact ⟨32, by decide, rfl⟩
  · exact ⟨64, by decide, rfl⟩
  · exact ⟨128, by decide, rfl⟩

set_option maxHeartbeats 2000000 in
theorem macTurned_walk (k s : ByteArray) (n : Int) (c : UInt8) (hn1 : -9223372036854775808 ≤ n) (hn2 : n ≤ 9223372036854775807) (w : World) :
    Calls Try.prog 8 #[.agg #[.string k, .string s, .int .i64 n, .int .u8 (c.toNat : Int)]] w fun e w' => e = .returned (.bool true) ∧ Below w.heap.size w w' := by
  go_enter Try.func8, Try.ntmps8
  by_cases h1 : 500 < k.size
  · have h1i : (500 : Int) < (k.size : Int) := by omega
    go_wp2_with fail
    refine (known03_any _).mono ?_
    rintro e w2 ⟨rfl, hb2⟩
    have H2 := Lib.hid ((((Below.refl w.heap.size w).alloc (Nat.le_refl _) _)).trans (hb2.mono (by simp)))
    clear hb2
    go_wp2
    go_ret
    exact ⟨rfl, H2.out⟩
  have h1i : ¬ (500 : Int) < (k.size : Int) := by omega
  by_cases h2 : 1000 < s.size
  · have h2i : (1000 : Int) < (s.size : Int) := by omega
    go_wp2_with fail
    refine (known03_any _).mono ?_
    rintro e w2 ⟨rfl, hb2⟩
    have H2 := Lib.hid ((((Below.refl w.heap.size w).alloc (Nat.le_refl _) _)).trans (hb2.mono (by simp)))
    clear hb2
    go_wp2
    go_ret
    exact ⟨rfl, H2.out⟩
  have h2i : ¬ (1000 : Int) < (s.size : Int) := by omega
  have hk : k.size ≤ 1000000 := by omega
  have hs : s.size ≤ 1000000 := by omega
  go_wp2_with fail
  obtain ⟨w1, hw1⟩ : ∃ w1, w1 = w.alloc (Obj.cells #[Value.string k, Value.string s, Value.int IntKind.i64 n, Value.int IntKind.u8 (c.toNat : Int)] 42) := ⟨_, rfl⟩
  have hb1 : Below w.heap.size w w1 := by rw [hw1]; exact (Below.refl _ _).alloc (Nat.le_refl _) _
  have hx1 : w1.heap[w.heap.size]? = some (Obj.cells #[Value.string k, Value.string s, Value.int IntKind.i64 n, Value.int IntKind.u8 (c.toNat : Int)] 42) := by rw [hw1]; exact heap_alloc_new w _
  have hlt1 : w.heap.size < w1.heap.size := by rw [hw1]; simp
  obtain ⟨x, hx⟩ : ∃ x, x = w.heap.size := ⟨_, rfl⟩
  rw [← hw1]
  rw [← hx] at hx1 hlt1 ⊢
  have cn : w1.cell? ⟨x, 2, none⟩ = some (.int .i64 n) := cell_of_row w1 x 2 _ 42 (0, 0) hx1
  have cb : w1.cell? ⟨x, 3, none⟩ = some (.int .u8 (c.toNat : Int)) := cell_of_row w1 x 3 _ 42 (0, 0) hx1
  have HX := Lib.hid hx
  have HB1 := Lib.hid hb1
  have HLT := Lib.hid hlt1
  have HCN := Lib.hid cn
  have HCB := Lib.hid cb
  clear hw1 hb1 hx1 hlt1 cn cb hx
  refine (tag_any k s w1 hk hs).mono ?_
  rintro e w2 ⟨rfl, hb2⟩
  obtain ⟨g, hg⟩ : ∃ g, g = str (tag k.data.toList s.data.toList) := ⟨_, rfl⟩
  have hgl : g.data.toList = tag k.data.toList s.data.toList := by rw [hg]; rfl
  have hgs : g.size = 32 := by rw [hg]; rfl
  have hgi : (g.size : Int) = 32 := by omega
  rw [← hg]
  have HB2 := Lib.hid hb2
  have HGL := Lib.hid hgl
  have HGS := Lib.hid hgs
  clear hg hb2 hgl hgs
  go_wp2_with fail
  refine (correct_any k s g w2 hk hs HGL.out).mono ?_
  rintro e w3 ⟨rfl, hb3⟩
  have HB3 := Lib.hid (HB2.out.trans (hb3.mono HB2.out.size))
  clear hb3
  have cn3 := (HB3.out.cell (p := ⟨x, 2, none⟩) HLT.out).trans HCN.out
  have cb3 := (HB3.out.cell (p := ⟨x, 3, none⟩) HLT.out).trans HCB.out
  go_wp2_with fail
  refine (count_any n hn1 hn2 w3).mono ?_
  rintro e w' ⟨⟨i, hi, rfl⟩, rfl⟩
  clear cn3 cb3
  obtain ⟨v0, w4, hconv, ho0, hb4⟩ := OwnB.conv w3 w3.heap.size g (Nat.le_refl _) (by have := HGS.out; omega)
  obtain ⟨r, cap, rfl, hr, hrow⟩ := ho0.row
  have hll : g.data.toList.length = 32 := by have := HGS.out; simpa using this
  rw [hll] at hconv
  have HB4 := Lib.hid (HB3.out.trans (hb4.mono HB3.out.size))
  have cb4 := (HB4.out.cell (p := ⟨x, 3, none⟩) HLT.out).trans HCB.out
  obtain ⟨hcx, hfx⟩ := hrow.cell i (by omega)
  obtain ⟨y, hy⟩ : ∃ y, y = g.data.toList[i] := ⟨_, rfl⟩
  rw [← hy] at hcx
  simp only [u8v] at hcx
  have hyd : y = g.data.toList.getD i 0 := by
    rw [hy, List.getD_eq_getElem?_getD, List.getElem?_eq_getElem (by omega)]
    rfl
  have HY := Lib.hid hyd
  have HROW := Lib.hid hrow
  have HR := Lib.hid hr
  have HLL := Lib.hid hll
  have hii : (i : Int) < 32 := by omega
  clear hyd hy hrow hr hll ho0 hb4
  go_wp2
  obtain ⟨b, hb0, hsh⟩ := one_shl c
  have hxr := b_xor y b
  obtain ⟨z, hz⟩ : ∃ z, z = y ^^^ b := ⟨_, rfl⟩
  rw [← hz] at hxr
  have HZ := Lib.hid hz
  rw [← hsh] at hxr
  have HXR := Lib.hid hxr
  clear hz hsh hxr
  go_region
  rw [HXR.out]
  have hset := HROW.out.set i (by have := HLL.out; omega) z
  have hb5 : Below w1.heap.size w1 (w4.setCell ⟨r, i, none⟩ (u8v z)) := HB4.out.setCell (by have := HB3.out.size; have := HR.out; simp; omega) _
  simp only [u8v] at hset hb5
  have hset' : ByteRow ((w4.setCell ⟨r, i, none⟩ (.int .u8 (z.toNat : Int))).drew) r (g.data.toList.set i z) cap := hset
  have hb5' : Below w1.heap.size w1 ((w4.setCell ⟨r, i, none⟩ (.int .u8 (z.toNat : Int))).drew) := hb5.drew
  have hll' : (g.data.toList.set i z).length = 32 := by rw [List.length_set]; exact HLL.out
  have hconv2 := run_convert_bytes _ _ _ hset'.bytes
  rw [hll'] at hconv2
  obtain ⟨t2, ht2⟩ : ∃ t2, t2 = str (g.data.toList.set i z) := ⟨_, rfl⟩
  rw [← ht2] at hconv2
  have hne : ¬ t2.data.toList = tag k.data.toList s.data.toList := by
    rw [← HGL.out, ht2, str_data]
    intro h
    have h2 : (g.data.toList.set i z).getD i 0 = g.data.toList.getD i 0 := by rw [h]
    rw [List.getD_eq_getElem?_getD, List.getElem?_set_self (by have := HLL.out; omega)] at h2
    rw [← HY.out, HZ.out] at h2
    have h3 : y ^^^ b = y := h2
    have h4 : b = 0 := by
      have := congrArg (fun q => y ^^^ q) h3
      simpa [← UInt8.xor_assoc] using this
    exact hb0 h4
  have HNE := Lib.hid hne
  have HB5 := Lib.hid hb5'
  clear hset hb5 hset' hb5' hll' ht2 hne hcx hfx hconv cb4
  generalize (w4.setCell ⟨r, i, none⟩ (.int .u8 (z.toNat : Int))).drew = w5 at *
  go_wp2_with fail
  refine (wrong_any k s t2 w5 hk hs HNE.out).mono ?_
  rintro e w6 ⟨rfl, hb6⟩
  have HB6 := Lib.hid (HB5.out.trans (hb6.mono HB5.out.size))
  clear hb6 hconv2
  have hii2 : (i : Int) ≤ 32 := by omega
  go_wp2_with fail
  refine (wrong_any k s _ w6 hk hs (by
    rw [← HGL.out]
    intro h
    have h2 := congrArg List.length h
    have := HGS.out
    simp [ByteArray.data_extract] at h2
    omega)).mono ?_
  rintro e w7 ⟨rfl, hb7⟩
  have HB7 := Lib.hid (HB6.out.trans (hb7.mono HB6.out.size))
  clear hb7
  have e1 : IntKind.i64.wrap ((i : Int) + 1) = ((i + 1 : Nat) : Int) := by rw [IntWalk.i64_in _ (by omega)]; omega
  have hi1 : (i : Int) + 1 ≤ 32 := by omega
  have hes : (g.extract 0 (i + 1)).size = i + 1 := by rw [ByteArray.size_extract]; have := HGS.out; omega
  have hcat : ¬ (9223372036854775807 < g.size + (g.extract 0 (i + 1)).size) := by have := HGS.out; omega
  have hcat2 : g.size + (g.extract 0 (i + 1)).size ≤ 9223372036854775807 := by omega
  have HES := Lib.hid hes
  clear hes
  go_wp2_with fail
  refine (wrong_any k s _ w7 hk hs (by
    rw [← HGL.out]
    intro h
    have h2 := congrArg List.length h
    have h3 := HGS.out
    have h4 := HES.out
    rw [ByteArray.data_append, Array.toList_append, List.length_append] at h2
    have h5 : (g.extract 0 (i + 1)).data.toList.length = (g.extract 0 (i + 1)).size := by simp
    omega)).mono ?_
  rintro e w8 ⟨rfl, hb8⟩
  have HB8 := Lib.hid (HB7.out.trans (hb8.mono HB7.out.size))
  clear hb8
  go_wp2_with fail
  refine (known03_any w8).mono ?_
  rintro e w9 ⟨rfl, hb9⟩
  have HB9 := Lib.hid (HB8.out.trans (hb9.mono HB8.out.size))
  clear hb9
  go_wp2
  go_ret
  exact ⟨rfl, HB1.out.trans (HB9.out.mono HB1.out.size)⟩
end Go.Proofs.Ythlppmhkdincgaa

namespace Go.Proofs.Ythlppmhkdincgaa.macTurned
open Go.ChangeShapes Go.WideShapes Go.ChangeAt Go.RowKit
open Go.ChangeMaps (open_string shut_string)

theorem own : ownKnob Try.prog.godebug = none := by kernel_rfl
theorem laidOut : laidOutB Try.prog = true := by kernel_rfl
theorem cells42 : Try.prog.cellsOf 42 = 4 := by kernel_rfl
theorem byte_of (a : Int) (h : (Lit.int .u8 a).wf = true) : ∃ c : UInt8, a = (c.toNat : Int) := by
  have hb : 0 ≤ a ∧ a < 256 := by
    have h2 : IntKind.u8.min ≤ a ∧ a ≤ IntKind.u8.max := by simpa [Lit.wf] using h
    have e1 : IntKind.u8.min = 0 := by decide
    have e2 : IntKind.u8.max = 255 := by decide
    rw [e1, e2] at h2
    omega
  refine ⟨UInt8.ofNat a.toNat, ?_⟩
  rw [UInt8.toNat_ofNat']
  omega
theorem int_of (a : Int) (h : (Lit.int .i64 a).wf = true) : -9223372036854775808 ≤ a ∧ a ≤ 9223372036854775807 := by
  have h2 : IntKind.i64.min ≤ a ∧ a ≤ IntKind.i64.max := by simpa [Lit.wf] using h
  have e1 : IntKind.i64.min = -9223372036854775808 := by decide
  have e2 : IntKind.i64.max = 9223372036854775807 := by decide
  rwa [e1, e2] at h2

set_option maxRecDepth 100000 in
theorem lifted (os : Os) (started : os.Started) (H : Type) (enc : TypeId × Value → H) :
    ReturnsInHanded {} Try.checked os 8 .any (Rows.macTurnedSpec.pre6 enc Try.prog Try.f8 Rows.macTurnedRow.domain false) (Rows.macTurnedSpec.post enc Try.prog Try.f8 false true false false) := by
  refine returnsInHanded_of_change (C := Try.checked) own started (by kernel_rfl) Try.func8
    (ChangeSpec.witness6 (enc := enc) (C := Try.checked) false ⟨#[], #[.agg #[.string ByteArray.empty, .string ByteArray.empty, .int .i64 0, .int .u8 0]], []⟩ 8 (by kernel_rfl) (by kernel_rfl) (by kernel_rfl) (by kernel_rfl)) ?_
  intro W base args ds gs before hval0 hW hcnd _
  have hval : ∀ (j : Nat) t v, Try.f8.params[j]? = some t → args[j]? = some v → Value.okWide Try.prog W .any base t v := hval0
  have hW' := hW
  obtain ⟨p, q, hA0, hV, rfl, hfz, hnd⟩ := hW
  have hA : DataW.TrodAll enc Try.prog W 0 (fun _ => true) true Try.f8.params.toList args.toList ds p := hA0
  rw [Try.params8] at hA hval
  obtain ⟨v0, d0, rfl, rfl, h0⟩ := trodAll_one hA
  obtain ⟨rfl, rfl⟩ := trodVars_none hV
  have h0k := h0
  have hlt : ∀ x ∈ p, x.block < W.heap.size := fun x hx => by simpa using hW'.lt x (by simpa using hx)
  clear hA0 hval0
  obtain ⟨c0, c1, c2, c3, y0, y1, y2, y3, fuel, rfl, hd, hp, t0, t1, t2, t3⟩ := Joins.open_agg4 Try.underlying42 (by kernel_rfl) cells42 (hval 0 42 v0 rfl rfl) h0
  obtain ⟨k, hk, -, -⟩ := DataW.trod_string Try.underlying9 t0
  obtain ⟨s, hs, -, -⟩ := DataW.trod_string Try.underlying9 t1
  obtain ⟨n, hn, -, hnw⟩ := DataW.trod_int Try.underlying3 t2
  obtain ⟨b, hb, -, hbw⟩ := DataW.trod_int Try.underlying5 t3
  simp only [List.cons.injEq, and_true] at hk hs hn hb
  subst hk hs hn hb
  obtain ⟨c, rfl⟩ := byte_of b hbw
  obtain ⟨n1, n2⟩ := int_of n hnw
  refine (macTurned_walk k s n c n1 n2 W).mono fun e W' ⟨he, hb⟩ => ?_
  subst he
  exact ⟨_, rfl, ⟨_, _, _, [], p, [], hW', trodAll_mk1 (shut_bool Try.underlying4 _), trodAll_mk1 (Below.trod laidOut (by kernel_rfl) (of_decide_eq_true (by kernel_rfl)) h0k hb hlt), rfl, hb.frame _, fun h => by cases h⟩⟩

theorem proved : Rows.MacTurnedSaid :=
  OpenClaim.holds_of_wide 8 Try.f8 rfl rfl rfl rfl rfl rfl rfl ⟨rfl, rfl, rfl, rfl, rfl⟩ rfl rfl rfl rfl rfl (by kernel_rfl) Try.func8 (by kernel_rfl)
    (of_decide_eq_true (by kernel_rfl)) (by unfold Func.isWrapper; first | (rw [if_pos (by decide +kernel)]; kernel_rfl) | (rw [if_neg (by decide +kernel)]; exact ⟨rfl, rfl⟩))
    (fun os started H enc _ => lifted os started H enc)
#print axioms proved
end Go.Proofs.Ythlppmhkdincgaa.macTurned
