/-
  NestScripts, walked: for every depth and every list of steps the law returns true and writes nothing that was there.
-/
import Derived.Test.YtdanhjfdgpbfiaaTwo
namespace Go.Proofs.Ytdanhjfdgpbfiaa
open Go.RowKit

set_option maxHeartbeats 1600000 in
set_option maxRecDepth 100000 in
theorem scripts_any (w : World) (d : Int) (A0 : Option Addr) (n c0 : Nat) (L : List (Int × ByteArray)) (hr : Reads w w.heap.size 2 A0 n (L.flatMap encStep)) :
    Calls Try.prog 6 #[.int .i64 d, .slice A0 n c0] w fun e w' => e = .returned (.bool true) ∧ Fr Nil w w' := by
  by_cases hd : d < 1 ∨ 256 < d
  · go_enter Try.func6, Try.ntmps6
    go_wp2_with fail
    refine (awake_any w).mono ?_
    rintro e w1 ⟨rfl, f1⟩
    go_wp2_with fail
    refine (new_no d _ hd).mono ?_
    rintro e w2 ⟨rfl, rfl⟩
    go_wp2_with fail
    refine (rnew_no d _ hd).mono ?_
    rintro e w2 ⟨rfl, rfl⟩
    go_wp2_with fail
    by_cases hn : 0 < n
    · go_loop [10] (fun i => i = .int .i64 0) (fun _ => 0)
      case atStart => rfl
      case round =>
        subst hrel
        go_wp2_with fail
        go_ret
        exact ⟨rfl, f1⟩
    · go_loop [10] (fun i => i = .int .i64 0) (fun _ => 0)
      case atStart => rfl
      case round =>
        subst hrel
        go_wp2_with fail
        go_ret
        exact ⟨rfl, f1⟩
  · go_enter Try.func6, Try.ntmps6
    go_wp2_with fail
    refine (awake_any w).mono ?_
    rintro e w1 ⟨rfl, f1⟩
    go_wp2_with fail
    refine (new_ok d _ (by omega) (by omega)).mono ?_
    rintro e w2 ⟨rfl, rfl⟩
    go_wp2_with fail
    refine (rnew_ok d _ (by omega) (by omega)).mono ?_
    rintro e w2 ⟨rfl, rfl⟩
    go_wp2_with fail
    go_loopw [10] (fun i wr => ∃ (k : Nat) (K : List ByteArray), i = .int .i64 k ∧ k ≤ n ∧ k ≤ 300 ∧ K.length ≤ d ∧ Two w wr w1.heap.size (w1.heap.size + 1) d K K) (fun i _ => (n - intOf i).toNat)
    case atStart => exact ⟨0, [], rfl, Nat.zero_le _, by decide, by simp; omega, two_new f1⟩
    case round =>
      obtain ⟨k, K, rfl, hk, hk3, hK, ho⟩ := hrel
      have hd256 : d ≤ 256 := by omega
      by_cases hlt : k < n ∧ k < 300
      · obtain ⟨hlt1, hlt2⟩ := hlt
        obtain ⟨ad, dd, s, rfl, hab, hs, hc1, hc2⟩ := reads_step (hr.below (two_fr ho).below) hlt1
        clear hs
        have hbox := Blk.new wr 34 #[.int .i64 dd, .string s]
        have hoB := two_keep ho ((Fr.rfl' Nil wr).alloc (.cells #[.int .i64 dd, .string s] 34))
        have hz := (two_fr ho).size
        by_cases h0 : dd = 0
        · subst h0
          by_cases hf : (K.length : Int) < d
          · go_wp2_with fail
            refine (two_open1 (x := s) hoB hf (by omega)).mono ?_
            rintro e w3 ⟨_, rfl, rfl, ho3, kp3⟩
            have hbox3 := kp3 _ _ hbox
            have hx3 := hbox3.cell 1
            go_wp2_with fail
            refine (two_open2 (x := s) ho3 hf (by omega)).mono ?_
            rintro e w4 ⟨_, rfl, rfl, ht, kp4⟩
            have hoa : Own w4 9 1 none 0 0 (([] : List ByteArray).map .string) := Own.nil _ _ _
            have hob := hoa
            have hsm : 0 ≤ 1048576 := Nat.zero_le _
            have hKd : ((K ++ [s]).length : Int) ≤ d := by simp; omega
            obtain ⟨K0, hK0⟩ : ∃ K0, K0 = K := ⟨_, rfl⟩
            obtain ⟨x, hx⟩ : ∃ x, x = s := ⟨_, rfl⟩
            rw [← hK0, ← hx] at ht hKd
            clear hK0 hx
            have hKl : (K0.length : Int) + 1 ≤ d := by simpa using hKd
            go_wp2_with fail
            refine (two_top ht (by omega)).mono ?_
            rintro e w8 ⟨rfl, hw⟩
            obtain ⟨m8, hm8⟩ := hw
            have f8 : Fr Nil _ w8 := hm8 ▸ (Fr.rfl' _ _).drewN m8
            replace ht := two_keep ht f8
            replace hoa := hoa.fr f8 (fun _ _ x => x)
            replace hob := hob.fr f8 (fun _ _ x => x)
            clear hm8 f8
            obtain ⟨g8, c8, hl8, hx8⟩ := two_last2 ht
            have ei : IntKind.i64.wrap ((K0.length : Int) + 1 - 1) = K0.length := by rw [IntKind.wrap_i64]; omega
            have ex := str_beq_self x
            have ep : (0 : Int) < (K0.length : Int) + 1 := by omega
            go_wp2_with fail
            go_quiet ((first | (go_at_call 18; exact Calls.quiet_of (same_yes _ _ _ _ _ _ _ _ _ ((hoa.reads).drewN _) ((hob.reads).drewN _) hsm)) | (go_at_call 11; exact Calls.quiet_of_same (two_depth (two_keep ht ((Fr.rfl' _ _).drewN _))))))
            go_wp2_with fail
            go_roundw
            case rel => exact ⟨k + 1, K0 ++ [x], by go_num, by omega, by omega, hKd, two_keep ht ((Fr.rfl' _ _).drewN _)⟩
            case measure => simp [intOf]; omega
          · go_wp2_with fail
            refine (two_full1 (x := s) hoB (by omega)).mono ?_
            rintro e w3 ⟨_, rfl, rfl, ho3, kp3⟩
            have hbox3 := kp3 _ _ hbox
            have hx3 := hbox3.cell 1
            go_wp2_with fail
            refine (two_full2 (x := s) ho3 (by omega)).mono ?_
            rintro e w4 ⟨_, rfl, rfl, ht, kp4⟩
            have hoa : Own w4 9 1 none 0 0 (([] : List ByteArray).map .string) := Own.nil _ _ _
            have hob := hoa
            have hsm : 0 ≤ 1048576 := Nat.zero_le _
            obtain ⟨K0, x, rfl⟩ : ∃ K0 x, K = K0 ++ [x] := ⟨K.dropLast, K.getLast (fun e => by subst e; simp at hf; omega), (List.dropLast_concat_getLast _).symm⟩
            have hKd := hK
            have hKl : (K0.length : Int) + 1 ≤ d := by simpa using hKd
            go_wp2_with fail
            refine (two_top ht (by omega)).mono ?_
            rintro e w8 ⟨rfl, hw⟩
            obtain ⟨m8, hm8⟩ := hw
            have f8 : Fr Nil _ w8 := hm8 ▸ (Fr.rfl' _ _).drewN m8
            replace ht := two_keep ht f8
            replace hoa := hoa.fr f8 (fun _ _ x => x)
            replace hob := hob.fr f8 (fun _ _ x => x)
            clear hm8 f8
            obtain ⟨g8, c8, hl8, hx8⟩ := two_last2 ht
            have ei : IntKind.i64.wrap ((K0.length : Int) + 1 - 1) = K0.length := by rw [IntKind.wrap_i64]; omega
            have ex := str_beq_self x
            have ep : (0 : Int) < (K0.length : Int) + 1 := by omega
            go_wp2_with fail
            go_quiet ((first | (go_at_call 18; exact Calls.quiet_of (same_yes _ _ _ _ _ _ _ _ _ ((hoa.reads).drewN _) ((hob.reads).drewN _) hsm)) | (go_at_call 11; exact Calls.quiet_of_same (two_depth (two_keep ht ((Fr.rfl' _ _).drewN _))))))
            go_wp2_with fail
            go_roundw
            case rel => exact ⟨k + 1, K0 ++ [x], by go_num, by omega, by omega, hKd, two_keep ht ((Fr.rfl' _ _).drewN _)⟩
            case measure => simp [intOf]; omega
        · have e0 : (dd == 0) = false := by simpa using h0
          by_cases h1 : dd = 1
          · subst h1
            go_wp2_with fail
            refine (two_close1 (x := s) hoB (by omega)).mono ?_
            rintro e w3 ⟨v, rfl, ⟨hx, rfl, ho3, kp3⟩ | ⟨j, hj, hA3, ho3, kp3, hsz⟩⟩
            · have hbox3 := kp3 _ _ hbox
              have hx3 := hbox3.cell 1
              go_wp2_with fail
              refine (two_no2 (x := s) ho3 hx (by omega)).mono ?_
              rintro e w4 ⟨rfl, rfl⟩
              obtain ⟨w4, hw4⟩ : ∃ w4, w4 = w3 := ⟨_, rfl⟩
              rw [← hw4] at ho3 ⊢
              clear hw4
              have ht := ho3
              have hoa : Own w4 9 1 none 0 0 (([] : List ByteArray).map .string) := Own.nil _ _ _
              have hob := hoa
              have hsm : 0 ≤ 1048576 := Nat.zero_le _
              rcases List.eq_nil_or_concat K with rfl | ⟨K0, x, rfl⟩
              · skip
                go_wp2_with fail
                refine (two_topnil ht).mono ?_
                rintro e w8 ⟨rfl, rfl⟩
                obtain ⟨A8, c8, hl8⟩ := two_len2 ht
                simp only [List.length_nil] at hl8
                go_wp2_with fail
                go_quiet ((first | (go_at_call 18; exact Calls.quiet_of (same_yes _ _ _ _ _ _ _ _ _ ((hoa.reads).drewN _) ((hob.reads).drewN _) hsm)) | (go_at_call 11; exact Calls.quiet_of_same (two_depth (two_keep ht ((Fr.rfl' _ _).drewN _))))))
                go_wp2_with fail
                go_roundw
                case rel => exact ⟨k + 1, [], by go_num, by omega, by omega, by simp; omega, two_keep ht ((Fr.rfl' _ _).drewN _)⟩
                case measure => simp [intOf]; omega
              · have hKd := hK
                rw [List.concat_eq_append] at ht hKd
                have hKl : (K0.length : Int) + 1 ≤ d := by simpa using hKd
                go_wp2_with fail
                refine (two_top ht (by omega)).mono ?_
                rintro e w8 ⟨rfl, hw⟩
                obtain ⟨m8, hm8⟩ := hw
                have f8 : Fr Nil _ w8 := hm8 ▸ (Fr.rfl' _ _).drewN m8
                replace ht := two_keep ht f8
                replace hoa := hoa.fr f8 (fun _ _ x => x)
                replace hob := hob.fr f8 (fun _ _ x => x)
                clear hm8 f8
                obtain ⟨g8, c8, hl8, hx8⟩ := two_last2 ht
                have ei : IntKind.i64.wrap ((K0.length : Int) + 1 - 1) = K0.length := by rw [IntKind.wrap_i64]; omega
                have ex := str_beq_self x
                have ep : (0 : Int) < (K0.length : Int) + 1 := by omega
                go_wp2_with fail
                go_quiet ((first | (go_at_call 18; exact Calls.quiet_of (same_yes _ _ _ _ _ _ _ _ _ ((hoa.reads).drewN _) ((hob.reads).drewN _) hsm)) | (go_at_call 11; exact Calls.quiet_of_same (two_depth (two_keep ht ((Fr.rfl' _ _).drewN _))))))
                go_wp2_with fail
                go_roundw
                case rel => exact ⟨k + 1, K0 ++ [x], by go_num, by omega, by omega, hKd, two_keep ht ((Fr.rfl' _ _).drewN _)⟩
                case measure => simp [intOf]; omega
            · have hbox3 := kp3 _ _ hbox
              have hx3 := hbox3.cell 1
              have hlt3 := two_lt hoB
              have HJ := Lib.hid hj
              have hjK : j ≤ K.length := Nat.le_of_lt (List.getElem?_eq_some_iff.1 hj.1).1
              clear hj
              go_wp2_with fail
              refine (two_close2 (x := s) ho3 hA3 hlt3 hsz HJ.out (by omega)).mono ?_
              rintro e w4 ⟨v2, rfl, HA, HB, ht⟩
              obtain ⟨Aa, na, ca, rfl, hna, hoa, _⟩ := HA
              obtain ⟨Ab, nb, cb, rfl, hnb, hob, _⟩ := HB
              obtain rfl : na = nb := by omega
              have hsm : na ≤ 1048576 := by
                have hKK := hK
                simp at hna
                omega
              clear hna hnb
              have hKj : ((K.take j).length : Int) ≤ d := by rw [List.length_take]; omega
              generalize K.take j = K' at ht hKj
              rcases List.eq_nil_or_concat K' with rfl | ⟨K0, x, rfl⟩
              · skip
                go_wp2_with fail
                refine (two_topnil ht).mono ?_
                rintro e w8 ⟨rfl, rfl⟩
                obtain ⟨A8, c8, hl8⟩ := two_len2 ht
                simp only [List.length_nil] at hl8
                go_wp2_with fail
                go_quiet ((first | (go_at_call 18; exact Calls.quiet_of (same_yes _ _ _ _ _ _ _ _ _ ((hoa.reads).drewN _) ((hob.reads).drewN _) hsm)) | (go_at_call 11; exact Calls.quiet_of_same (two_depth (two_keep ht ((Fr.rfl' _ _).drewN _))))))
                go_wp2_with fail
                go_roundw
                case rel => exact ⟨k + 1, [], by go_num, by omega, by omega, by simp; omega, two_keep ht ((Fr.rfl' _ _).drewN _)⟩
                case measure => simp [intOf]; omega
              · have hKd := hKj
                rw [List.concat_eq_append] at ht hKd
                have hKl : (K0.length : Int) + 1 ≤ d := by simpa using hKd
                go_wp2_with fail
                refine (two_top ht (by omega)).mono ?_
                rintro e w8 ⟨rfl, hw⟩
                obtain ⟨m8, hm8⟩ := hw
                have f8 : Fr Nil _ w8 := hm8 ▸ (Fr.rfl' _ _).drewN m8
                replace ht := two_keep ht f8
                replace hoa := hoa.fr f8 (fun _ _ x => x)
                replace hob := hob.fr f8 (fun _ _ x => x)
                clear hm8 f8
                obtain ⟨g8, c8, hl8, hx8⟩ := two_last2 ht
                have ei : IntKind.i64.wrap ((K0.length : Int) + 1 - 1) = K0.length := by rw [IntKind.wrap_i64]; omega
                have ex := str_beq_self x
                have ep : (0 : Int) < (K0.length : Int) + 1 := by omega
                go_wp2_with fail
                go_quiet ((first | (go_at_call 18; exact Calls.quiet_of (same_yes _ _ _ _ _ _ _ _ _ ((hoa.reads).drewN _) ((hob.reads).drewN _) hsm)) | (go_at_call 11; exact Calls.quiet_of_same (two_depth (two_keep ht ((Fr.rfl' _ _).drewN _))))))
                go_wp2_with fail
                go_roundw
                case rel => exact ⟨k + 1, K0 ++ [x], by go_num, by omega, by omega, hKd, two_keep ht ((Fr.rfl' _ _).drewN _)⟩
                case measure => simp [intOf]; omega
          · have e1 : (dd == 1) = false := by simpa using h1
            have hlt3 := two_lt hoB
            go_wp2_with fail
            refine (two_all1 hoB (by omega)).mono ?_
            rintro e w3 ⟨v, rfl, hA3, ho3, hsz⟩
            go_wp2_with fail
            refine (two_all2 ho3 hA3 hlt3 hsz (by omega)).mono ?_
            rintro e w4 ⟨v2, rfl, HA, HB, ht⟩
            obtain ⟨Aa, na, ca, rfl, hna, hoa, _⟩ := HA
            obtain ⟨Ab, nb, cb, rfl, hnb, hob, _⟩ := HB
            obtain rfl : na = nb := by omega
            have hsm : na ≤ 1048576 := by
              have hKK := hK
              simp at hna
              omega
            clear hna hnb
            go_wp2_with fail
            refine (two_topnil ht).mono ?_
            rintro e w8 ⟨rfl, rfl⟩
            obtain ⟨A8, c8, hl8⟩ := two_len2 ht
            simp only [List.length_nil] at hl8
            go_wp2_with fail
            go_quiet ((first | (go_at_call 18; exact Calls.quiet_of (same_yes _ _ _ _ _ _ _ _ _ ((hoa.reads).drewN _) ((hob.reads).drewN _) hsm)) | (go_at_call 11; exact Calls.quiet_of_same (two_depth (two_keep ht ((Fr.rfl' _ _).drewN _))))))
            go_wp2_with fail
            go_roundw
            case rel => exact ⟨k + 1, [], by go_num, by omega, by omega, by simp; omega, two_keep ht ((Fr.rfl' _ _).drewN _)⟩
            case measure => simp [intOf]; omega
      · by_cases hlt1 : k < n
        · have hb : decide ((k : Int) < 300) = false := by simp; omega
          go_wp2_with fail
          go_ret
          exact ⟨rfl, two_fr ho⟩
        · go_wp2_with fail
          go_ret
          exact ⟨rfl, two_fr ho⟩
end Go.Proofs.Ytdanhjfdgpbfiaa
