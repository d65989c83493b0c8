/- The tag: what the code's and the document's 'Of' answer, and 'Right'. -/
import Derived.Test.YthlppmhkdincgaaV
import Derived.BigQuiet
attribute [local go_sem ↓] Go.wp_at_zero Go.wp_at_succ
namespace Go.Proofs.Ythlppmhkdincgaa
open Go.RowKit Sha

theorem str_append (a b : List UInt8) : str a ++ str b = str (a ++ b) := by
  rw [← str_eta (str a ++ str b), ByteArray.data_append, Array.toList_append, str_data, str_data]
theorem append_str (a : List UInt8) (b : ByteArray) : str a ++ b = str (a ++ b.data.toList) := by
  rw [← str_append, str_eta]

set_option maxHeartbeats 1000000 in
theorem refTag_any (k s : ByteArray) (w : World) (hk : k.size ≤ 1000000) (hs : s.size ≤ 1000000) :
    Calls Try.prog 19 #[.string k, .string s] w fun e w' => e = .returned (.string (str (tag k.data.toList s.data.toList))) ∧ Below w.heap.size w w' := by
  go_enter Try.func19, Try.ntmps19
  have e54 : ((54 : UInt8).toNat : Int) = 54 := rfl
  have e92 : ((92 : UInt8).toNat : Int) = 92 := rfl
  go_wp2_with fail
  refine (refKey_any k w (by omega)).mono ?_
  rintro e w1 ⟨rfl, hb1⟩
  have HB1 := Lib.hid hb1
  clear hb1
  obtain ⟨kk, hkk⟩ : ∃ kk, kk = str (keyed k.data.toList) := ⟨_, rfl⟩
  have hkl : kk.data.toList = keyed k.data.toList := by rw [hkk]; rfl
  have hks : kk.size = 64 := by rw [hkk, str_size, keyed_length]
  rw [← hkk]
  have HKL := Lib.hid hkl
  have HKS := Lib.hid hks
  clear hkk hkl hks
  go_wp2_with fail
  refine (refMixed_any kk 92 w1 (by have := HKS.out; omega)).mono ?_
  rintro e w2 ⟨rfl, hb2⟩
  have HB2 := Lib.hid (HB1.out.trans (hb2.mono HB1.out.size))
  clear hb2
  go_wp2_with fail
  refine (refMixed_any kk 54 w2 (by have := HKS.out; omega)).mono ?_
  rintro e w3 ⟨rfl, hb3⟩
  have HB3 := Lib.hid (HB2.out.trans (hb3.mono HB2.out.size))
  clear hb3
  obtain ⟨m2, hm2⟩ : ∃ m, m = str (mixed kk.data.toList 54) := ⟨_, rfl⟩
  obtain ⟨m1, hm1⟩ : ∃ m, m = str (mixed kk.data.toList 92) := ⟨_, rfl⟩
  have hl2 : m2.data.toList = mixed (keyed k.data.toList) 54 := by rw [hm2, ← HKL.out]; rfl
  have hl1 : m1.data.toList = mixed (keyed k.data.toList) 92 := by rw [hm1, ← HKL.out]; rfl
  have hz2 : m2.size = 64 := by rw [hm2, str_size, mixed_length]; exact HKS.out
  have hz1 : m1.size = 64 := by rw [hm1, str_size, mixed_length]; exact HKS.out
  rw [← hm1, ← hm2]
  have hcat1 : ¬ (9223372036854775807 < m2.size + s.size) := by omega
  have hcat2 : m2.size + s.size ≤ 9223372036854775807 := by omega
  have HL1 := Lib.hid hl1
  have HL2 := Lib.hid hl2
  have HZ1 := Lib.hid hz1
  have HZ2 := Lib.hid hz2
  clear hl1 hl2 hz1 hz2 hm1 hm2
  go_wp2_with fail
  refine (refOf_any (m2 ++ s) w3 (by rw [ByteArray.size_append]; have := HZ2.out; omega)).mono ?_
  rintro e w4 ⟨rfl, hb4⟩
  have HB4 := Lib.hid (HB3.out.trans (hb4.mono HB3.out.size))
  clear hb4
  obtain ⟨d, hd⟩ : ∃ d, d = str (sha (m2 ++ s).data.toList) := ⟨_, rfl⟩
  have hdl : d.data.toList = sha (mixed (keyed k.data.toList) 54 ++ s.data.toList) := by rw [hd, ← HL2.out, ByteArray.data_append, Array.toList_append]; rfl
  have hds : d.size = 32 := by rw [hd]; rfl
  rw [← hd]
  have hcat3 : ¬ (9223372036854775807 < m1.size + d.size) := by have := HZ1.out; omega
  have hcat4 : m1.size + d.size ≤ 9223372036854775807 := by omega
  have HDL := Lib.hid hdl
  have HDS := Lib.hid hds
  clear hd hdl hds
  go_wp2_with fail
  refine (refOf_any (m1 ++ d) w4 (by rw [ByteArray.size_append]; have := HZ1.out; have := HDS.out; omega)).mono ?_
  rintro e w5 ⟨rfl, hb5⟩
  have HB5 := Lib.hid (HB4.out.trans (hb5.mono HB4.out.size))
  clear hb5
  go_wp2
  go_ret
  refine ⟨?_, HB5.out⟩
  unfold tag
  rw [← HL1.out, ← HDL.out]
  rfl

theorem makeMixer_any (k : ByteArray) (w : World) (hk : k.size ≤ 1000000) :
    Calls Try.prog 35 #[.string k] w fun e w' => ∃ p, e = .returned (.func (.func 40) #[] #[.pointer (some ⟨p, 0, none⟩)]) ∧ w'.cell? ⟨p, 0, none⟩ = some (.string (str (keyed k.data.toList))) ∧ Below w.heap.size w w' := by
  have hmf : ∀ (fn : Fn) (first cap : Array Value) (w : World), (Instr.makeFunc fn first cap).run Try.prog w = .ok (.func fn first cap) w := fun _ _ _ _ => rfl
  go_enter Try.func35, Try.ntmps35
  go_wp2_with fail
  refine (key_any k w (by omega)).mono ?_
  rintro e w1 ⟨rfl, hb1⟩
  have HB1 := Lib.hid hb1
  clear hb1
  go_wp2
  go_ret
  refine ⟨w1.heap.size, rfl, ?_, HB1.out.alloc HB1.out.size _⟩
  exact cell_of_row _ _ 0 _ _ (0, 0) (heap_alloc_new w1 _)

set_option maxHeartbeats 1000000 in
theorem tag_any (k s : ByteArray) (w : World) (hk : k.size ≤ 1000000) (hs : s.size ≤ 1000000) :
    Calls Try.prog 20 #[.string k, .string s] w fun e w' => e = .returned (.string (str (tag k.data.toList s.data.toList))) ∧ Below w.heap.size w w' := by
  go_enter Try.func20, Try.ntmps20
  have e54 : ((54 : UInt8).toNat : Int) = 54 := rfl
  have e92 : ((92 : UInt8).toNat : Int) = 92 := rfl
  obtain ⟨kk, hkk⟩ : ∃ kk, kk = str (keyed k.data.toList) := ⟨_, rfl⟩
  have hkl : kk.data.toList = keyed k.data.toList := by rw [hkk]; rfl
  have hks : kk.size = 64 := by rw [hkk, str_size, keyed_length]
  have HKL := Lib.hid hkl
  have HKS := Lib.hid hks
  have HKK := Lib.hid hkk
  clear hkk hkl hks
  go_wp2_with fail
  refine (makeMixer_any k w hk).mono ?_
  rintro e w1 ⟨p, rfl, hp, hb1⟩
  rw [← HKK.out] at hp
  have HP := Lib.hid hp
  have HPL := Lib.hid (World.block_lt_of_cell? w1 _ hp)
  have HB1 := Lib.hid hb1
  clear hb1 hp
  go_wp2_with fail
  refine (new_any _).mono ?_
  rintro e w' ⟨rfl, rfl⟩
  have hh := HashAt.new w1 (.cells (St.cells first) 36)
  have hbn : Below w1.heap.size w1 ((w1.alloc (.cells (St.cells first) 36)).alloc (.cells (hcells first (.slice none 0 0) 0) 38)) := ((Below.refl _ _).alloc (Nat.le_refl _) _).alloc (by simp) _
  obtain ⟨b, hbq⟩ : ∃ b, b = w1.heap.size + 1 := ⟨_, rfl⟩
  have hbw : w.heap.size ≤ b := by have := HB1.out.size; omega
  have hpb : p < b := by have : p < w1.heap.size := HPL.out; omega
  rw [← hbq] at hh ⊢
  generalize (w1.alloc (.cells (St.cells first) 36)).alloc (.cells (hcells first (.slice none 0 0) 0) 38) = w2 at *
  have HH := Lib.hid hh
  have HB2 := Lib.hid (HB1.out.trans (hbn.mono HB1.out.size))
  have HP2 := Lib.hid ((hbn.cell (p := ⟨p, 0, none⟩) HPL.out).trans HP.out)
  clear hh hbn hbq
  go_wp2_with fail
  refine (mixer_any kk 54 p w2 HP2.out (by have := HKS.out; omega)).mono ?_
  rintro e w3 ⟨rfl, hb3⟩
  obtain ⟨m2, hm2⟩ : ∃ m, m = str (mixed kk.data.toList 54) := ⟨_, rfl⟩
  have hl2 : m2.data.toList = mixed (keyed k.data.toList) 54 := by rw [hm2, ← HKL.out]; rfl
  have hz2 : m2.size = 64 := by rw [hm2, str_size, mixed_length]; exact HKS.out
  rw [← hm2]
  have HL2 := Lib.hid hl2
  have HZ2 := Lib.hid hz2
  have HH3 := Lib.hid (HH.out.below hb3)
  have hp2 := World.block_lt_of_cell? w2 _ HP2.out
  have HP3 := Lib.hid ((hb3.cell (p := ⟨p, 0, none⟩) hp2).trans HP2.out)
  have HB3 := Lib.hid (HB2.out.trans (hb3.mono HB2.out.size))
  clear hb3 hm2 hl2 hz2 hp2
  go_wp2_with fail
  refine (write_any b [] m2 w3 HH3.out (by have := HZ2.out; simp; omega)).mono ?_
  rintro e w4 ⟨rfl, hh4, hg4⟩
  rw [List.nil_append] at hh4
  have hp3 := World.block_lt_of_cell? w3 _ HP3.out
  have HP4 := Lib.hid ((World.cell?_of_block (a := ⟨p, 0, none⟩) (hg4.block p hp3 (by simp; omega))).trans HP3.out)
  have HB4 := Lib.hid (HB3.out.grown hg4 HB3.out.size (fun j hj => by cases hj; exact hbw))
  have HH4 := Lib.hid hh4
  clear hh4 hg4 hp3
  go_wp2_with fail
  refine (write_any b _ s w4 HH4.out (by have := HZ2.out; simp; omega)).mono ?_
  rintro e w5 ⟨rfl, hh5, hg5⟩
  have hp4 := World.block_lt_of_cell? w4 _ HP4.out
  have HP5 := Lib.hid ((World.cell?_of_block (a := ⟨p, 0, none⟩) (hg5.block p hp4 (by simp; omega))).trans HP4.out)
  have HB5 := Lib.hid (HB4.out.grown hg5 HB4.out.size (fun j hj => by cases hj; exact hbw))
  have HH5 := Lib.hid hh5
  clear hh5 hg5 hp4
  go_wp2_with fail
  refine (mixer_any kk 92 p w5 HP5.out (by have := HKS.out; omega)).mono ?_
  rintro e w6 ⟨rfl, hb6⟩
  obtain ⟨m1, hm1⟩ : ∃ m, m = str (mixed kk.data.toList 92) := ⟨_, rfl⟩
  have hl1 : m1.data.toList = mixed (keyed k.data.toList) 92 := by rw [hm1, ← HKL.out]; rfl
  have hz1 : m1.size = 64 := by rw [hm1, str_size, mixed_length]; exact HKS.out
  rw [← hm1]
  have HL1 := Lib.hid hl1
  have HZ1 := Lib.hid hz1
  have HH6 := Lib.hid (HH5.out.below hb6)
  have HB6 := Lib.hid (HB5.out.trans (hb6.mono HB5.out.size))
  clear hb6 hm1 hl1 hz1
  go_wp2_with fail
  refine (sum_any b _ w6 HH6.out (by have := HZ2.out; simp; omega)).mono ?_
  rintro e w7 ⟨rfl, hb7⟩
  have HB7 := Lib.hid (HB6.out.trans (hb7.mono HB6.out.size))
  clear hb7
  obtain ⟨d, hd⟩ : ∃ d, d = str (sha (m2.data.toList ++ s.data.toList)) := ⟨_, rfl⟩
  have hdl : d.data.toList = sha (mixed (keyed k.data.toList) 54 ++ s.data.toList) := by rw [hd, ← HL2.out]; rfl
  have hds : d.size = 32 := by rw [hd]; rfl
  rw [← hd]
  have hcat3 : ¬ (9223372036854775807 < m1.size + d.size) := by have := HZ1.out; omega
  have hcat4 : m1.size + d.size ≤ 9223372036854775807 := by omega
  have HDL := Lib.hid hdl
  have HDS := Lib.hid hds
  clear hd hdl hds
  go_wp2_with fail
  refine (of_any (m1 ++ d) w7 (by rw [ByteArray.size_append]; have := HZ1.out; have := HDS.out; omega)).mono ?_
  rintro e w8 ⟨rfl, hb8⟩
  have HB8 := Lib.hid (HB7.out.trans (hb8.mono HB7.out.size))
  clear hb8
  go_wp2
  go_ret
  refine ⟨?_, HB8.out⟩
  unfold tag
  rw [← HL1.out, ← HDL.out]
  rfl
end Go.Proofs.Ythlppmhkdincgaa
