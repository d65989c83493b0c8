/- A text behind which its ending stands: what the reference's 'padded' answers. -/
import Derived.Test.YthlppmhkdincgaaN
namespace Go.Proofs.Ythlppmhkdincgaa
open Go.RowKit Sha

/-- A builtin append whose run is known. -/
theorem wpList_append_is {P : Program} {ops : Array Oper} {rest : List Oper} {o : Oper} {a : Act} {w : World} {Q : Exit → Act → World → Prop} (hgd : o.guard = none) (s x : Operand) (t u ty : TypeId)
    (hop : o.op = Op.call { callee := Callee.builtin Builtin.append, args := #[s, x], argTypes := #[t, u] }) (hty : o.type = ty)
    (sv xv : Value) (hs : a.eval s = sv) (hx : a.eval x = xv) (v : Value) (w' : World) (hr : (Builtin.append_ #[t, u] ty #[sv, xv]).run P w = .ok v w')
    (h : wpList P ops Q rest (a.put o.dst v) w') : wpList P ops Q (o :: rest) a w := by
  refine wpList_plain hgd fun K hK => ?_
  subst hty
  unfold Oper.wp execOp
  simp only [hop, resolve, invoke, builtin, Sem.run_bind, Sem.run_pure, Result.andThen_ok, List.map_toArray, List.map_cons, List.map_nil, hs, hx, hr]
  exact hK _ _ h

theorem OwnB.form {w : World} {base : Nat} {v : Value} {l : List UInt8} (h : OwnB w base v l) : ∃ g cap, v = .slice (some ⟨g, 0, none⟩) l.length cap ∧ base ≤ g := by
  obtain ⟨g, cap, cur, fr, hv, hb, _⟩ := h
  exact ⟨g, cap, hv, hb⟩

set_option maxHeartbeats 2000000 in
theorem padded_any (s : ByteArray) (w : World) (hs : s.size ≤ 1073741824) :
    Calls Try.prog 24 #[.string s] w (RetBytes w (Sha.padded s.data.toList)) := by
  obtain ⟨v0, w0, hconv, ho0, hb0⟩ := OwnB.conv w w.heap.size s (Nat.le_refl _) (by omega)
  obtain ⟨l, hl⟩ : ∃ l, l = s.data.toList := ⟨_, rfl⟩
  have hln : l.length = s.size := by rw [hl]; simp
  rw [← hl] at ho0
  rw [← hl]
  have HL := Lib.hid hl
  have HLN := Lib.hid hln
  clear hl hln
  obtain ⟨v1, w1, hap1, ho1, hb1⟩ := ho0.push 0x80 (by rw [HLN.out]; omega) hb0.size
  have HA1 := Lib.hid hap1
  have HO1 := Lib.hid ho1
  have HB1 := Lib.hid (hb0.trans hb1)
  clear hap1 ho0 ho1 hb1 hb0
  go_enter Try.func24, Try.ntmps24
  go_wp2_with (at_builtin; refine wpList_append_is rfl _ _ 32 32 32 rfl rfl _ _ rfl rfl v1 w1 HA1.out ?_)
  have hz64 := zeros_lt l.length
  have hsl : l.length ≤ 1073741824 := by rw [HLN.out]; exact hs
  go_loopw [3] (fun b wr => ∃ z : Nat, z ≤ zeros l.length ∧ OwnB wr w.heap.size b (l ++ (0x80 :: List.replicate z 0)) ∧ Below w.heap.size w wr) (fun b _ => l.length + 100 - lenOf b)
  case atStart => exact ⟨0, Nat.zero_le _, HO1.out, HB1.out⟩
  case round =>
    obtain ⟨z, hz, ho, hb⟩ := hrel
    obtain ⟨g, cap, hv, hg⟩ := ho.form
    have hll : (l ++ (0x80 :: List.replicate z 0)).length = l.length + (z + 1) := by simp
    rw [hll] at hv
    subst hv
    have hsz := hb.size
    by_cases hlt : z < zeros l.length
    · have hne : (l.length + (z + 1)) % 64 ≠ 56 := by have := zeros_more l.length z hlt; omega
      obtain ⟨v', w', hap, ho', hb'⟩ := ho.push 0 (by rw [hll]; omega) hsz
      have HA := Lib.hid hap
      have HO := Lib.hid ho'
      have HB := Lib.hid (hb.trans hb')
      clear hap ho' hb' ho hll
      go_wp2_with (at_builtin; refine wpList_append_is rfl _ _ 32 32 32 rfl rfl _ _ rfl rfl v' w' HA.out ?_)
      go_roundw
      case rel =>
        refine ⟨z + 1, by omega, ?_, HB.out⟩
        rw [List.replicate_succ', ← List.cons_append, ← List.append_assoc]
        exact HO.out
      case measure =>
        obtain ⟨g', cap', hv', _⟩ := HO.out.form
        rw [hv']; simp [lenOf]; omega
    · obtain rfl : z = zeros l.length := by omega
      have hdone := zeros_done l.length
      have hq : (((l.length : Int) + ((zeros l.length : Int) + 1)) % 64 != 56) = false := by rw [bne_eq_false_iff_eq]; omega
      have e1 : IntKind.u64.wrap (8 * (s.size : Int)) = ((8 * s.size : Nat) : Int) := by rw [IntKind.wrap_u64]; omega
      clear hll
      go_wp2
      go_loopw [3, 5] (fun b i wr => ∃ j : Nat, j ≤ 8 ∧ i = .int .i64 (7 - (j : Int)) ∧ OwnB wr w.heap.size b (l ++ (0x80 :: (List.replicate (zeros l.length) 0 ++ (eight (8 * l.length)).take j))) ∧ Below w.heap.size w wr)
        (fun _ i _ => (intOf i + 1).toNat)
      case atStart => exact ⟨0, by omega, rfl, by simpa using ho, hb⟩
      case round =>
        clear ho hb hsz hg
        obtain ⟨j, hj, rfl, ho, hb⟩ := hrel
        obtain ⟨g, cap, hv, hg⟩ := ho.form
        have hll : (l ++ (0x80 :: (List.replicate (zeros l.length) 0 ++ (eight (8 * l.length)).take j))).length = l.length + (zeros l.length + 1) + j := by
          simp [eight_length]; omega
        rw [hll] at hv
        subst hv
        have hsz := hb.size
        by_cases hj8 : j < 8
        · obtain ⟨q, hq7⟩ : ∃ q : Nat, q = 7 - j := ⟨_, rfl⟩
          obtain ⟨sh, hsh⟩ : ∃ sh : Nat, sh = 8 * q := ⟨_, rfl⟩
          have e2 : (7 - (j : Int)) = (q : Int) := by omega
          have e3 : IntKind.u64.wrap (8 * (q : Int)) = (sh : Int) := by rw [IntKind.wrap_u64]; omega
          have hs56 : sh ≤ 56 := by omega
          have e4 : (8 * (s.size : Int) / 2 ^ sh) % 256 = (((eight (8 * l.length)).getD j 0).toNat : Int) := by
            rw [← eight_get (8 * l.length) j hj8, show 56 - 8 * j = sh by omega, HLN.out]
            simp
          have e5 : ((q : Int) - 1) = 7 - ((j + 1 : Nat) : Int) := by omega
          have ht := eight_take (8 * l.length) j hj8
          obtain ⟨v', w', hap, ho', hb'⟩ := ho.push ((eight (8 * l.length)).getD j 0) (by rw [hll]; omega) hsz
          have hq7' : q ≤ 7 := by omega
          have E4 := Lib.hid e4
          have E5 := Lib.hid e5
          have HT := Lib.hid ht
          have HA := Lib.hid hap
          have HO := Lib.hid ho'
          have HB := Lib.hid (hb.trans hb')
          clear e4 e5 ht hsh hq7 hap ho' hb' ho hll
          rw [e2]
          go_wp2_with (at_builtin; refine wpList_append_is rfl _ _ 32 32 32 rfl rfl _ _ rfl rfl v' w' (by rw [E4.out]; exact HA.out) ?_)
          go_roundw
          case rel =>
            refine ⟨j + 1, by omega, congrArg (Value.int IntKind.i64) E5.out, ?_, HB.out⟩
            rw [HT.out]
            have h := HO.out
            simpa using h
          case measure => simp [intOf]
        · obtain rfl : j = 8 := by omega
          have e6 : (7 - ((8 : Nat) : Int)) = -1 := by omega
          rw [e6]
          have hfin : BytesAt wr (.slice (some ⟨g, 0, none⟩) (l.length + (zeros l.length + 1) + 8) cap) (Sha.padded l) := by
            have := ho.bytes
            rw [eight_all] at this
            exact this
          have HF := Lib.hid hfin
          clear hfin ho hll
          go_wp2
          go_ret
          exact ⟨_, rfl, HF.out, hb⟩
end Go.Proofs.Ythlppmhkdincgaa
