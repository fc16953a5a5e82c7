/-
  class.fields as an iterator, class.Fields, walked.
-/
import Derived.Test.YticofnfjebifgaaRange
import Derived.Test.YticofnfjebifgaaFldP
import Derived.Test.YticofnfjebifgaaTrim
namespace Go.Proofs.Yticofnfjebifgaa
open Go.RowKit Go.Shelf
attribute [local go_sem] Oper.semAt_some

def cellLen (W : World) (b : Nat) : Nat := match W.cell? ⟨b, 0, none⟩ with
  | some (.string t) => t.size
  | _ => 0
theorem cellLen_of {W : World} {b : Nat} {t : ByteArray} {T : TypeId} (h : Blk W b T #[.string t]) : cellLen W b = t.size := by
  unfold cellLen
  rw [h.cell 0]
  rfl

/-- the step from word to word -/
theorem fields_step {t : ByteArray} {k : Nat} (hk : k ≤ t.size) (h0 : 0 < k) (hw : ∀ j c, j < k → (bs t)[j]? = some c → spB c = false) (he : ∀ c, (bs t)[k]? = some c → spB c = true) :
    fields (bs t) = mid (bs t) 0 k :: fields (trim (bs (t.extract k t.size))) := by
  have hs := size_bs t
  have h1 : bs t = mid (bs t) 0 k ++ (bs t).drop k := by rw [mid, List.drop_zero, List.take_append_drop]
  have h2 : bs (t.extract k t.size) = (bs t).drop k := by rw [bs_extract, List.take_of_length_le (by omega)]
  rw [fields_trim, h2]
  conv => lhs; rw [h1]
  refine fields_word _ _ (fun c hc => ?_) (fun e => ?_) (fun c hc => he c ?_)
  · obtain ⟨j, hj⟩ := List.getElem?_of_mem hc
    rw [mid, List.drop_zero] at hj
    have hjk := (List.getElem?_eq_some_iff.1 hj).1
    rw [List.length_take] at hjk
    rw [List.getElem?_take_of_lt (by omega)] at hj
    exact hw j c (by omega) hj
  · have := congrArg List.length e
    rw [mid, List.drop_zero, List.length_take, List.length_nil] at this
    omega
  · rw [List.getElem?_drop] at hc
    simpa using hc

set_option maxRecDepth 100000 in
set_option maxHeartbeats 2000000 in
theorem fields_in (n : Nat) (hn : 1 ≤ n) (l Bn : Nat) (s : ByteArray) (hs : s.size ≤ 1048576) (J : List (List UInt8) → World → Prop)
    (hJ : ∀ q A B, J q A → Own1 Bn A B → J q B)
    (hY : ∀ pre x A, J pre A → pre.length < s.size → YieldAt Fence.wide (n - 1) Try.prog l #[.string (str x)] A fun e B => e = .returned (.bool true) ∧ J (pre ++ [x]) B ∧ B.heap[Bn]? = A.heap[Bn]?)
    (W : World) (hB : Blk W Bn 9 #[.string s]) (h0 : J [] W) :
    CallsIn Fence.wide n Try.prog 35 #[.func (.yield l) #[] #[], .pointer (some ⟨Bn, 0, none⟩)] W fun e B => (∃ v, e = .returned v) ∧ ∃ xs, xs = fields (bs s) ∧ J xs B := by
  have hro : Fence.wide.round = none := rfl
  refine callsIn_of_wp Try.func35 rfl trivial ?_ hro
  simp only [Try.ntmps35, List.size_toArray, List.length_cons, List.length_nil, Nat.reduceAdd, Nat.reduceSub, Array.replicate_succ, Array.replicate_zero, List.push_toArray, List.append_toArray, List.nil_append, List.cons_append]
  have hc := hB.cell 0
  have hf := hB.frozen 0
  simp at hc
  gi_wp2
  refine ⟨trivial, (callsIn_wide.2 (trim_any W s hs)).mono ?_⟩
  rintro e w1 ⟨rfl, rfl⟩
  have hB0 : Blk (W.setCell ⟨Bn, 0, none⟩ (.string (str (trim (bs s))))) Bn 9 #[.string (str (trim (bs s)))] := by simpa using hB.set_ 0 (.string (str (trim (bs s))))
  have hJ0 := hJ _ _ _ h0 (Fr.setCell (S := fun i => i = Bn) (p := ⟨Bn, 0, none⟩) (Fr.rfl' _ W) (fun _ => rfl) (.string (str (trim (bs s)))))
  have htl := trim_len (bs s)
  have hsb := size_bs s
  have HTL := Lib.hid (show (str (trim (bs s))).size ≤ s.size by rw [size_str]; omega)
  have HF0 := Lib.hid (fields_trim (bs s))
  have HH0 := Lib.hid (trim_head (bs s))
  clear htl hsb hB h0
  gi_wp2
  gi_loopw [3] (fun _ wr => ∃ (pre : List (List UInt8)) (t : ByteArray), pre ++ fields (bs t) = fields (bs s) ∧ t.size ≤ s.size ∧ (∀ c, (bs t)[0]? = some c → spB c = false) ∧ Blk wr Bn 9 #[.string t] ∧ J pre wr) (fun _ wr => cellLen wr Bn)
  case atStart => exact ⟨[], _, by rw [bs_str]; exact HF0.out, HTL.out, by rw [bs_str]; exact HH0.out, hB0, hJ0⟩
  case round =>
    clear hB0 hJ0 hc hf
    obtain ⟨pre, t, hpf, hts, hhd, hb, hj⟩ := hrel
    have HP := Lib.hid hpf
    have HH := Lib.hid hhd
    clear hpf hhd
    have hc := hb.cell 0
    have hf := hb.frozen 0
    simp at hc
    by_cases ht0 : t.size = 0
    · obtain ⟨e1, e2, e3⟩ := empty_of ht0
      have HZ := Lib.hid (show fields (bs t) = [] by rw [empty_bs ht0]; rfl)
      clear ht0
      gi_wp2
      go_end0
      exact ⟨⟨_, rfl⟩, _, by rw [← HP.out, HZ.out, List.append_nil], hj⟩
    · obtain ⟨e1, e2, e3⟩ := full_of ht0
      gi_wp2
      gi_loop [3] (fun i => ∃ k : Nat, k ≤ t.size ∧ i = .int .i64 k ∧ ∀ j c, j < k → (bs t)[j]? = some c → spB c = false) (fun i => t.size - (intOf i).toNat)
      case atStart => exact ⟨0, Nat.zero_le _, rfl, fun _ _ h => absurd h (Nat.not_lt_zero _)⟩
      case round =>
        obtain ⟨k, hk, rfl, hw⟩ := hrel
        have HW := Lib.hid hw
        clear hw
        by_cases hgo : ∃ c, (bs t)[k]? = some c ∧ spB c = false
        · obtain ⟨c, hcc, hsp⟩ := hgo
          have hlt : k < t.size := by rw [size_bs]; exact (List.getElem?_eq_some_iff.1 hcc).1
          have hx := run_index_at (P := Try.prog) Try.underlying9 hcc
          have HW2 := Lib.hid (show ∀ j c, j < k + 1 → (bs t)[j]? = some c → spB c = false from fun j d hj hd => by
            by_cases hjk : j < k
            · exact HW.out j d hjk hd
            · obtain rfl : j = k := by omega
              rw [hcc] at hd
              injection hd with hd
              rw [← hd]
              exact hsp)
          clear hcc
          gi_wp2
          refine ⟨trivial, (callsIn_wide.2 (space_any _ _)).mono ?_⟩
          rintro e w1 ⟨rfl, rfl⟩
          rw [hsp]
          gi_wp2
          go_round
          case rel => exact ⟨k + 1, by omega, by go_num, HW2.out⟩
          case measure => simp [intOf]; omega
        · have h0k : 0 < k := by
            rcases Nat.eq_zero_or_pos k with h | h
            · subst h
              obtain ⟨c, hcc⟩ := byte_at t (show 0 < t.size by omega)
              exact (hgo ⟨c, hcc, HH.out c hcc⟩).elim
            · exact h
          have hwalk : (¬ k < t.size) ∨ (k < t.size ∧ ∃ c, (∀ W, (Instr.index 9 (.string t) (.int .i64 (k : Int))).run Try.prog W = .ok (.int .u8 (c.toNat : Int)) W) ∧ spB c = true) := by
            by_cases hlt : k < t.size
            · obtain ⟨c, hc'⟩ := byte_at t hlt
              refine .inr ⟨hlt, c, run_index_at (P := Try.prog) Try.underlying9 hc', ?_⟩
              cases hsp : spB c with
              | true => rfl
              | false => exact (hgo ⟨c, hc', hsp⟩).elim
            · exact .inl hlt
          have hend : ∀ c, (bs t)[k]? = some c → spB c = true := fun c hc' => by
            cases hsp : spB c with
            | true => rfl
            | false => exact (hgo ⟨c, hc', hsp⟩).elim
          have hst := fields_step hk h0k HW.out hend
          clear hgo hend
          have hpl : pre.length < s.size := by
            have h1 := congrArg List.length HP.out
            rw [hst, List.length_append, List.length_cons] at h1
            have h2 := fields_len (bs s)
            rw [← size_bs] at h2
            omega
          obtain ⟨fn, tmps, assign, body, hy, hR⟩ := hY pre (mid (bs t) 0 k) wr hj hpl
          rw [← str_mid] at hy
          have HST := Lib.hid hst
          have hes : (t.extract k t.size).size = t.size - k := by simp [ByteArray.size_extract]
          have HE := Lib.hid hes
          clear hst hes
          rcases hwalk with hlt | ⟨hlt, c, hx, hsp⟩
          case' inl =>
            gi_wp2
            refine ⟨trivial, ?_⟩
            gi_wp2
          case' inr =>
            gi_wp2
            refine ⟨trivial, (callsIn_wide.2 (space_any _ _)).mono ?_⟩
            rintro e w1 ⟨rfl, rfl⟩
            rw [hsp]
            gi_wp2
          all_goals
            clear hy
            refine hR.mono ?_
            rintro e W3 ⟨rfl, hJ3, hk3⟩
            have hb3 : Blk W3 Bn 9 #[.string t] := hk3.trans hb
            have hc3 := hb3.cell 0
            have hf3 := hb3.frozen 0
            simp at hc3
            have hf4 : (W3.setCell ⟨Bn, 0, none⟩ (.string (t.extract k t.size))).frozen? ⟨Bn, 0, none⟩ = false := by rw [World.frozen?_setCell]; exact hf3
            have hb4 : Blk (W3.setCell ⟨Bn, 0, none⟩ (.string (t.extract k t.size))) Bn 9 #[.string (t.extract k t.size)] := by simpa using hb3.set_ 0 (.string (t.extract k t.size))
            have hc4 := hb4.cell 0
            simp at hc4
            have hb5 : Blk ((W3.setCell ⟨Bn, 0, none⟩ (.string (t.extract k t.size))).setCell ⟨Bn, 0, none⟩ (.string (str (trim (bs (t.extract k t.size)))))) Bn 9 #[.string (str (trim (bs (t.extract k t.size))))] := by
              simpa using hb4.set_ 0 (.string (str (trim (bs (t.extract k t.size)))))
            have hJ5 := hJ _ _ _ hJ3 (((Fr.rfl' (fun i => i = Bn) W3).setCell (p := ⟨Bn, 0, none⟩) (fun _ => rfl) (.string (t.extract k t.size))).setCell (p := ⟨Bn, 0, none⟩) (fun _ => rfl) (.string (str (trim (bs (t.extract k t.size))))))
            have hel : (t.extract k t.size).size ≤ 1048576 := by rw [HE.out]; omega
            have HH5 := Lib.hid (trim_head (bs (t.extract k t.size)))
            have htl := trim_len (bs (t.extract k t.size))
            rw [← size_bs, HE.out] at htl
            have HL5 := Lib.hid (show (str (trim (bs (t.extract k t.size)))).size ≤ t.size - k by rw [size_str]; exact htl)
            have HP5 := Lib.hid (show (pre ++ [mid (bs t) 0 k]) ++ fields (trim (bs (t.extract k t.size))) = fields (bs s) by rw [← HP.out, HST.out, List.append_assoc]; rfl)
            clear htl hc hf hk3 hJ3
            gi_wp2
            refine ⟨trivial, (callsIn_wide.2 (trim_any _ _ hel)).mono ?_⟩
            rintro e w1 ⟨rfl, rfl⟩
            gi_wp2
            go_roundw
            case rel => exact ⟨_, _, by rw [bs_str]; exact HP5.out, by have := HL5.out; omega, by rw [bs_str]; exact HH5.out, hb5, hJ5⟩
            case measure => rw [cellLen_of hb5, cellLen_of hb]; have := HL5.out; omega
end Go.Proofs.Yticofnfjebifgaa
