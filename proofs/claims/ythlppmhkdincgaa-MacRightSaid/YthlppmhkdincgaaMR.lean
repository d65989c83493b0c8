/- The statement MacRight: a tag is right just if it is the text's tag under the key. -/
import Derived.Test.YthlppmhkdincgaaY
import Derived.Test.YthlppmhkdincgaaRows
import Derived.ProofKit
import Derived.OpenShut
import Derived.ShutString
namespace Go.Proofs.Ythlppmhkdincgaa
open Go.RowKit Sha

set_option maxHeartbeats 1000000 in
theorem macRight_walk (k s t : ByteArray) (w : World) : Calls Try.prog 7 #[.string k, .string s, .string t] w fun e w' => e = .returned (.bool true) ∧ Below w.heap.size w w' := by
  go_enter Try.func7, Try.ntmps7
  by_cases hlim : 500 < k.size ∨ 1000 < s.size ∨ 1000 < t.size
  · have known : ∀ (w : World), Calls Try.prog 17 #[] w fun e w' => e = .returned (.bool true) ∧ Below w.heap.size w w' := known03_any
    by_cases h1 : 500 < k.size
    · have h1i : (500 : Int) < (k.size : Int) := by omega
      go_wp2_with fail
      refine (known03_any w).mono ?_
      rintro e w2 ⟨rfl, hb2⟩
      have H2 := Lib.hid hb2
      clear hb2
      go_wp2
      go_ret
      exact ⟨rfl, H2.out⟩
    · have h1i : ¬ (500 : Int) < (k.size : Int) := by omega
      by_cases h2 : 1000 < s.size
      · have h2i : (1000 : Int) < (s.size : Int) := by omega
        go_wp2_with fail
        refine (known03_any w).mono ?_
        rintro e w2 ⟨rfl, hb2⟩
        have H2 := Lib.hid hb2
        clear hb2
        go_wp2
        go_ret
        exact ⟨rfl, H2.out⟩
      · have h2i : ¬ (1000 : Int) < (s.size : Int) := by omega
        have h3i : (1000 : Int) < (t.size : Int) := by omega
        go_wp2_with fail
        refine (known03_any w).mono ?_
        rintro e w2 ⟨rfl, hb2⟩
        have H2 := Lib.hid hb2
        clear hb2
        go_wp2
        go_ret
        exact ⟨rfl, H2.out⟩
  · have h1i : ¬ (500 : Int) < (k.size : Int) := by omega
    have h2i : ¬ (1000 : Int) < (s.size : Int) := by omega
    have h3i : ¬ (1000 : Int) < (t.size : Int) := by omega
    have hk : k.size ≤ 1000000 := by omega
    have hs : s.size ≤ 1000000 := by omega
    have HLIM := Lib.hid hlim
    clear hlim
    go_wp2_with fail
    refine (tagRight_any k s t w hk hs).mono ?_
    rintro e w1 ⟨rfl, hb1⟩
    have HB1 := Lib.hid hb1
    clear hb1
    obtain ⟨g, hg⟩ : ∃ g, g = str (tag k.data.toList s.data.toList) := ⟨_, rfl⟩
    have hgl : tag k.data.toList s.data.toList = g.data.toList := by rw [hg]; rfl
    obtain ⟨r, hr⟩ : ∃ r : Bool, r = decide (t.data.toList = tag k.data.toList s.data.toList) := ⟨_, rfl⟩
    rw [← hr]
    have HG := Lib.hid hg
    have HGL := Lib.hid hgl
    have HR := Lib.hid hr
    clear hg hgl hr
    go_wp2_with fail
    refine (refTag_any k s w1 hk hs).mono ?_
    rintro e w2 ⟨rfl, hb2⟩
    have HB2 := Lib.hid (HB1.out.trans (hb2.mono HB1.out.size))
    clear hb2
    rw [← HG.out]
    have hrt : (t.toList == g.toList) = r := by
      rw [HR.out, HGL.out, Lib.toList_data, Lib.toList_data]
      by_cases h : t.data.toList = g.data.toList
      · rw [h]; simp
      · rw [decide_eq_false h]
        exact beq_eq_false_iff_ne.2 h
    have hrr : (r == r) = true := by simp
    go_wp2_with fail
    refine (refTag_any k s w2 hk hs).mono ?_
    rintro e w3 ⟨rfl, hb3⟩
    have HB3 := Lib.hid (HB2.out.trans (hb3.mono HB2.out.size))
    clear hb3
    rw [← HG.out]
    go_wp2_with fail
    refine (tagRight_any k s g w3 hk hs).mono ?_
    rintro e w4 ⟨rfl, hb4⟩
    have HB4 := Lib.hid (HB3.out.trans (hb4.mono HB3.out.size))
    clear hb4
    rw [decide_eq_true HGL.out.symm]
    go_wp2_with fail
    refine (known03_any w4).mono ?_
    rintro e w5 ⟨rfl, hb5⟩
    have HB5 := Lib.hid (HB4.out.trans (hb5.mono HB4.out.size))
    clear hb5
    go_wp2
    go_ret
    exact ⟨rfl, HB5.out⟩
end Go.Proofs.Ythlppmhkdincgaa

namespace Go.Proofs.Ythlppmhkdincgaa.macRight
open Go.ChangeShapes Go.WideShapes Go.ChangeAt Go.RowKit
open Go.ChangeMaps (open_string shut_string)

theorem own : ownKnob Try.prog.godebug = none := by kernel_rfl

set_option maxRecDepth 100000 in
theorem lifted (os : Os) (started : os.Started) (H : Type) (enc : TypeId × Value → H) :
    ReturnsInHanded {} Try.checked os 7 .any (Rows.macRightSpec.pre6 enc Try.prog Try.f7 Rows.macRightRow.domain false) (Rows.macRightSpec.post enc Try.prog Try.f7 false true false false) := by
  refine returnsInHanded_of_change (C := Try.checked) own started (by kernel_rfl) Try.func7
    (ChangeSpec.witness6 (enc := enc) (C := Try.checked) false ⟨#[], #[.string ByteArray.empty, .string ByteArray.empty, .string ByteArray.empty], []⟩ 8 (by kernel_rfl) (by kernel_rfl) (by kernel_rfl) (by kernel_rfl)) ?_
  intro W base args ds gs before hval0 hW hcnd _
  have hval : ∀ (j : Nat) t v, Try.f7.params[j]? = some t → args[j]? = some v → Value.okWide Try.prog W .any base t v := hval0
  have hW' := hW
  obtain ⟨p, q, hA0, hV, rfl, hfz, hnd⟩ := hW
  have hA : DataW.TrodAll enc Try.prog W 0 (fun _ => true) true Try.f7.params.toList args.toList ds p := hA0
  rw [Try.params7] at hA hval
  obtain ⟨v0, vs0, d0, ds0, p0, q0, hargs, rfl, rfl, h0, r0⟩ := trodAll_cons hA
  obtain ⟨v1, vs1, d1, ds1, p1, q1, rfl, rfl, rfl, h1, r1⟩ := trodAll_cons r0
  obtain ⟨v2, vs2, d2, ds2, p2, q2, rfl, rfl, rfl, h2, r2⟩ := trodAll_cons r1
  obtain ⟨rfl, rfl, rfl⟩ := trodAll_nil r2
  obtain rfl : args = #[v0, v1, v2] := by cases args; simp_all
  obtain ⟨rfl, rfl⟩ := trodVars_none hV
  obtain ⟨a0, rfl, rfl, rfl, w0⟩ := open_string Try.underlying9 (hval 0 9 v0 rfl rfl) h0
  obtain ⟨a1, rfl, rfl, rfl, w1⟩ := open_string Try.underlying9 (hval 1 9 v1 rfl rfl) h1
  obtain ⟨a2, rfl, rfl, rfl, w2⟩ := open_string Try.underlying9 (hval 2 9 v2 rfl rfl) h2
  clear hA0 hval0
  simp only [List.append_nil] at hW'
  refine (macRight_walk a0 a1 a2 W).mono fun e W' ⟨he, hb⟩ => ?_
  subst he
  exact ⟨_, rfl, ⟨_, _, _, [], [], [], hW', trodAll_cons_mk (shut_bool Try.underlying4 _) trodAll_mk0, trodAll_cons_mk (shut_string Try.underlying9 w0) (trodAll_cons_mk (shut_string Try.underlying9 w1) (trodAll_cons_mk (shut_string Try.underlying9 w2) trodAll_mk0)), rfl, hb.frame _, fun h => by cases h⟩⟩

theorem proved : Rows.MacRightSaid :=
  OpenClaim.holds_of_wide 7 Try.f7 rfl rfl rfl rfl rfl rfl rfl ⟨rfl, rfl, rfl, rfl, rfl⟩ rfl rfl rfl rfl rfl (by kernel_rfl) Try.func7 (by kernel_rfl)
    (of_decide_eq_true (by kernel_rfl)) (by unfold Func.isWrapper; first | (rw [if_pos (by decide +kernel)]; kernel_rfl) | (rw [if_neg (by decide +kernel)]; exact ⟨rfl, rfl⟩))
    (fun os started H enc _ => lifted os started H enc)
#print axioms proved
end Go.Proofs.Ythlppmhkdincgaa.macRight
