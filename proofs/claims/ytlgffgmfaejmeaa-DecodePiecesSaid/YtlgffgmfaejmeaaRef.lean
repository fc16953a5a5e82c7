/-
  The reference of chapter 1: more, fits, Begin, Whole, Valid.
-/
import Derived.Test.YtlgffgmfaejmeaaWrite
import Derived.BigQuiet
import Derived.Deep.QuietTactic
namespace Go.Proofs.Ytlgffgmfaejmeaa
open Go.RowKit

def moreI (c : Nat) : Int := if c < 128 then 0 else if needN c = 0 then -1 else (needN c : Nat)

set_option maxRecDepth 100000 in
theorem more_a (w : World) (c : UInt8) (ha : 0 ≤ c.toNat) (hz : c.toNat ≤ 127) : Calls Try.prog 23 #[.int .u8 (c.toNat : Int)] w fun e w' => e = .returned (.int .i64 (moreI c.toNat)) ∧ w' = w := by
  have hm : moreI c.toNat = 0 := by rw [moreI, if_pos (by omega)]
  rw [hm]
  have t0 : (c.toNat : Int) < 128 := by omega
  have a194 : ¬ (194 : Int) ≤ (c.toNat : Int) := by omega
  have a224 : ¬ (224 : Int) ≤ (c.toNat : Int) := by omega
  have a240 : ¬ (240 : Int) ≤ (c.toNat : Int) := by omega
  have z223 : (c.toNat : Int) ≤ 223 := by omega
  have z239 : (c.toNat : Int) ≤ 239 := by omega
  have z244 : (c.toNat : Int) ≤ 244 := by omega
  go_enter Try.func23, Try.ntmps23
  go_wp2_with fail
  go_ret
  exact ⟨rfl, rfl⟩

set_option maxRecDepth 100000 in
theorem more_b (w : World) (c : UInt8) (ha : 128 ≤ c.toNat) (hz : c.toNat ≤ 193) : Calls Try.prog 23 #[.int .u8 (c.toNat : Int)] w fun e w' => e = .returned (.int .i64 (moreI c.toNat)) ∧ w' = w := by
  have hn : needN c.toNat = 0 := by unfold needN; split <;> (try split) <;> (try split) <;> omega
  have hm : moreI c.toNat = -1 := by rw [moreI, if_neg (by omega), if_pos hn]
  rw [hm]
  have t0 : ¬ (c.toNat : Int) < 128 := by omega
  have a194 : ¬ (194 : Int) ≤ (c.toNat : Int) := by omega
  have a224 : ¬ (224 : Int) ≤ (c.toNat : Int) := by omega
  have a240 : ¬ (240 : Int) ≤ (c.toNat : Int) := by omega
  have z223 : (c.toNat : Int) ≤ 223 := by omega
  have z239 : (c.toNat : Int) ≤ 239 := by omega
  have z244 : (c.toNat : Int) ≤ 244 := by omega
  go_enter Try.func23, Try.ntmps23
  go_wp2_with fail
  go_ret
  exact ⟨rfl, rfl⟩

set_option maxRecDepth 100000 in
theorem more_c (w : World) (c : UInt8) (ha : 194 ≤ c.toNat) (hz : c.toNat ≤ 223) : Calls Try.prog 23 #[.int .u8 (c.toNat : Int)] w fun e w' => e = .returned (.int .i64 (moreI c.toNat)) ∧ w' = w := by
  have hn : needN c.toNat = 1 := by unfold needN; split <;> (try split) <;> (try split) <;> omega
  have hm : moreI c.toNat = 1 := by rw [moreI, if_neg (by omega), hn]; rfl
  rw [hm]
  have t0 : ¬ (c.toNat : Int) < 128 := by omega
  have a194 : (194 : Int) ≤ (c.toNat : Int) := by omega
  have a224 : ¬ (224 : Int) ≤ (c.toNat : Int) := by omega
  have a240 : ¬ (240 : Int) ≤ (c.toNat : Int) := by omega
  have z223 : (c.toNat : Int) ≤ 223 := by omega
  have z239 : (c.toNat : Int) ≤ 239 := by omega
  have z244 : (c.toNat : Int) ≤ 244 := by omega
  go_enter Try.func23, Try.ntmps23
  go_wp2_with fail
  go_ret
  exact ⟨rfl, rfl⟩

set_option maxRecDepth 100000 in
theorem more_d (w : World) (c : UInt8) (ha : 224 ≤ c.toNat) (hz : c.toNat ≤ 239) : Calls Try.prog 23 #[.int .u8 (c.toNat : Int)] w fun e w' => e = .returned (.int .i64 (moreI c.toNat)) ∧ w' = w := by
  have hn : needN c.toNat = 2 := by unfold needN; split <;> (try split) <;> (try split) <;> omega
  have hm : moreI c.toNat = 2 := by rw [moreI, if_neg (by omega), hn]; rfl
  rw [hm]
  have t0 : ¬ (c.toNat : Int) < 128 := by omega
  have a194 : (194 : Int) ≤ (c.toNat : Int) := by omega
  have a224 : (224 : Int) ≤ (c.toNat : Int) := by omega
  have a240 : ¬ (240 : Int) ≤ (c.toNat : Int) := by omega
  have z223 : ¬ (c.toNat : Int) ≤ 223 := by omega
  have z239 : (c.toNat : Int) ≤ 239 := by omega
  have z244 : (c.toNat : Int) ≤ 244 := by omega
  go_enter Try.func23, Try.ntmps23
  go_wp2_with fail
  go_ret
  exact ⟨rfl, rfl⟩

set_option maxRecDepth 100000 in
theorem more_e (w : World) (c : UInt8) (ha : 240 ≤ c.toNat) (hz : c.toNat ≤ 244) : Calls Try.prog 23 #[.int .u8 (c.toNat : Int)] w fun e w' => e = .returned (.int .i64 (moreI c.toNat)) ∧ w' = w := by
  have hn : needN c.toNat = 3 := by unfold needN; split <;> (try split) <;> (try split) <;> omega
  have hm : moreI c.toNat = 3 := by rw [moreI, if_neg (by omega), hn]; rfl
  rw [hm]
  have t0 : ¬ (c.toNat : Int) < 128 := by omega
  have a194 : (194 : Int) ≤ (c.toNat : Int) := by omega
  have a224 : (224 : Int) ≤ (c.toNat : Int) := by omega
  have a240 : (240 : Int) ≤ (c.toNat : Int) := by omega
  have z223 : ¬ (c.toNat : Int) ≤ 223 := by omega
  have z239 : ¬ (c.toNat : Int) ≤ 239 := by omega
  have z244 : (c.toNat : Int) ≤ 244 := by omega
  go_enter Try.func23, Try.ntmps23
  go_wp2_with fail
  go_ret
  exact ⟨rfl, rfl⟩

set_option maxRecDepth 100000 in
theorem more_f (w : World) (c : UInt8) (ha : 245 ≤ c.toNat) (hz : c.toNat ≤ 255) : Calls Try.prog 23 #[.int .u8 (c.toNat : Int)] w fun e w' => e = .returned (.int .i64 (moreI c.toNat)) ∧ w' = w := by
  have hn : needN c.toNat = 0 := by unfold needN; split <;> (try split) <;> (try split) <;> omega
  have hm : moreI c.toNat = -1 := by rw [moreI, if_neg (by omega), if_pos hn]
  rw [hm]
  have t0 : ¬ (c.toNat : Int) < 128 := by omega
  have a194 : (194 : Int) ≤ (c.toNat : Int) := by omega
  have a224 : (224 : Int) ≤ (c.toNat : Int) := by omega
  have a240 : (240 : Int) ≤ (c.toNat : Int) := by omega
  have z223 : ¬ (c.toNat : Int) ≤ 223 := by omega
  have z239 : ¬ (c.toNat : Int) ≤ 239 := by omega
  have z244 : ¬ (c.toNat : Int) ≤ 244 := by omega
  go_enter Try.func23, Try.ntmps23
  go_wp2_with fail
  go_ret
  exact ⟨rfl, rfl⟩

theorem more_any (w : World) (c : UInt8) : Calls Try.prog 23 #[.int .u8 (c.toNat : Int)] w fun e w' => e = .returned (.int .i64 (moreI c.toNat)) ∧ w' = w := by
  have hb := c.toNat_lt
  by_cases ha : c.toNat ≤ 127
  · exact more_a w c (by omega) ha
  by_cases hb : c.toNat ≤ 193
  · exact more_b w c (by omega) hb
  by_cases hc : c.toNat ≤ 223
  · exact more_c w c (by omega) hc
  by_cases hd : c.toNat ≤ 239
  · exact more_d w c (by omega) hd
  by_cases he : c.toNat ≤ 244
  · exact more_e w c (by omega) he
  exact more_f w c (by omega) (by omega)

theorem fits_a (w : World) (f c : UInt8) (hf : f.toNat = 224) : Calls Try.prog 24 #[.int .u8 (f.toNat : Int), .int .i64 (1 : Int), .int .u8 (c.toNat : Int)] w fun e w' => e = .returned (.bool (fitsN f.toNat 1 c.toNat)) ∧ w' = w := by
  have hl : loN f.toNat = 160 := by unfold loN; split <;> (try split) <;> omega
  have hh : hiN f.toNat = 191 := by unfold hiN; split <;> (try split) <;> omega
  have hv : fitsN f.toNat 1 c.toNat = (decide (160 ≤ c.toNat) && decide (c.toNat ≤ 191)) := by rw [fitsN, if_pos rfl, if_pos rfl, hl, hh]
  have e224 : ((f.toNat : Int) == 224) = true := by simp; omega
  have e237 : ((f.toNat : Int) == 237) = false := by simp; omega
  have e240 : ((f.toNat : Int) == 240) = false := by simp; omega
  have e244 : ((f.toNat : Int) == 244) = false := by simp; omega
  clear hf hl hh
  rw [hv]
  clear hv
  by_cases h5 : 160 ≤ c.toNat
  · have h5' : (160 : Int) ≤ c.toNat := by omega
    by_cases h6 : c.toNat ≤ 191
    · have h6' : (c.toNat : Int) ≤ 191 := by omega
      rw [decide_eq_true h5, decide_eq_true h6]
      go_enter Try.func24, Try.ntmps24
      go_wp2_with fail
      go_ret
      exact ⟨rfl, rfl⟩
    · have h6' : ¬ (c.toNat : Int) ≤ 191 := by omega
      rw [decide_eq_true h5, decide_eq_false h6]
      go_enter Try.func24, Try.ntmps24
      go_wp2_with fail
      go_ret
      exact ⟨rfl, rfl⟩
  · have h5' : ¬ (160 : Int) ≤ c.toNat := by omega
    rw [decide_eq_false h5, Bool.false_and]
    go_enter Try.func24, Try.ntmps24
    go_wp2_with fail
    go_ret
    exact ⟨rfl, rfl⟩

theorem fits_b (w : World) (f c : UInt8) (hf : f.toNat = 237) : Calls Try.prog 24 #[.int .u8 (f.toNat : Int), .int .i64 (1 : Int), .int .u8 (c.toNat : Int)] w fun e w' => e = .returned (.bool (fitsN f.toNat 1 c.toNat)) ∧ w' = w := by
  have hl : loN f.toNat = 128 := by unfold loN; split <;> (try split) <;> omega
  have hh : hiN f.toNat = 159 := by unfold hiN; split <;> (try split) <;> omega
  have hv : fitsN f.toNat 1 c.toNat = (decide (128 ≤ c.toNat) && decide (c.toNat ≤ 159)) := by rw [fitsN, if_pos rfl, if_pos rfl, hl, hh]
  have e224 : ((f.toNat : Int) == 224) = false := by simp; omega
  have e237 : ((f.toNat : Int) == 237) = true := by simp; omega
  have e240 : ((f.toNat : Int) == 240) = false := by simp; omega
  have e244 : ((f.toNat : Int) == 244) = false := by simp; omega
  clear hf hl hh
  rw [hv]
  clear hv
  by_cases h5 : 128 ≤ c.toNat
  · have h5' : (128 : Int) ≤ c.toNat := by omega
    by_cases h6 : c.toNat ≤ 159
    · have h6' : (c.toNat : Int) ≤ 159 := by omega
      rw [decide_eq_true h5, decide_eq_true h6]
      go_enter Try.func24, Try.ntmps24
      go_wp2_with fail
      go_ret
      exact ⟨rfl, rfl⟩
    · have h6' : ¬ (c.toNat : Int) ≤ 159 := by omega
      rw [decide_eq_true h5, decide_eq_false h6]
      go_enter Try.func24, Try.ntmps24
      go_wp2_with fail
      go_ret
      exact ⟨rfl, rfl⟩
  · have h5' : ¬ (128 : Int) ≤ c.toNat := by omega
    rw [decide_eq_false h5, Bool.false_and]
    go_enter Try.func24, Try.ntmps24
    go_wp2_with fail
    go_ret
    exact ⟨rfl, rfl⟩

theorem fits_c (w : World) (f c : UInt8) (hf : f.toNat = 240) : Calls Try.prog 24 #[.int .u8 (f.toNat : Int), .int .i64 (1 : Int), .int .u8 (c.toNat : Int)] w fun e w' => e = .returned (.bool (fitsN f.toNat 1 c.toNat)) ∧ w' = w := by
  have hl : loN f.toNat = 144 := by unfold loN; split <;> (try split) <;> omega
  have hh : hiN f.toNat = 191 := by unfold hiN; split <;> (try split) <;> omega
  have hv : fitsN f.toNat 1 c.toNat = (decide (144 ≤ c.toNat) && decide (c.toNat ≤ 191)) := by rw [fitsN, if_pos rfl, if_pos rfl, hl, hh]
  have e224 : ((f.toNat : Int) == 224) = false := by simp; omega
  have e237 : ((f.toNat : Int) == 237) = false := by simp; omega
  have e240 : ((f.toNat : Int) == 240) = true := by simp; omega
  have e244 : ((f.toNat : Int) == 244) = false := by simp; omega
  clear hf hl hh
  rw [hv]
  clear hv
  by_cases h5 : 144 ≤ c.toNat
  · have h5' : (144 : Int) ≤ c.toNat := by omega
    by_cases h6 : c.toNat ≤ 191
    · have h6' : (c.toNat : Int) ≤ 191 := by omega
      rw [decide_eq_true h5, decide_eq_true h6]
      go_enter Try.func24, Try.ntmps24
      go_wp2_with fail
      go_ret
      exact ⟨rfl, rfl⟩
    · have h6' : ¬ (c.toNat : Int) ≤ 191 := by omega
      rw [decide_eq_true h5, decide_eq_false h6]
      go_enter Try.func24, Try.ntmps24
      go_wp2_with fail
      go_ret
      exact ⟨rfl, rfl⟩
  · have h5' : ¬ (144 : Int) ≤ c.toNat := by omega
    rw [decide_eq_false h5, Bool.false_and]
    go_enter Try.func24, Try.ntmps24
    go_wp2_with fail
    go_ret
    exact ⟨rfl, rfl⟩

theorem fits_d (w : World) (f c : UInt8) (hf : f.toNat = 244) : Calls Try.prog 24 #[.int .u8 (f.toNat : Int), .int .i64 (1 : Int), .int .u8 (c.toNat : Int)] w fun e w' => e = .returned (.bool (fitsN f.toNat 1 c.toNat)) ∧ w' = w := by
  have hl : loN f.toNat = 128 := by unfold loN; split <;> (try split) <;> omega
  have hh : hiN f.toNat = 143 := by unfold hiN; split <;> (try split) <;> omega
  have hv : fitsN f.toNat 1 c.toNat = (decide (128 ≤ c.toNat) && decide (c.toNat ≤ 143)) := by rw [fitsN, if_pos rfl, if_pos rfl, hl, hh]
  have e224 : ((f.toNat : Int) == 224) = false := by simp; omega
  have e237 : ((f.toNat : Int) == 237) = false := by simp; omega
  have e240 : ((f.toNat : Int) == 240) = false := by simp; omega
  have e244 : ((f.toNat : Int) == 244) = true := by simp; omega
  clear hf hl hh
  rw [hv]
  clear hv
  by_cases h5 : 128 ≤ c.toNat
  · have h5' : (128 : Int) ≤ c.toNat := by omega
    by_cases h6 : c.toNat ≤ 143
    · have h6' : (c.toNat : Int) ≤ 143 := by omega
      rw [decide_eq_true h5, decide_eq_true h6]
      go_enter Try.func24, Try.ntmps24
      go_wp2_with fail
      go_ret
      exact ⟨rfl, rfl⟩
    · have h6' : ¬ (c.toNat : Int) ≤ 143 := by omega
      rw [decide_eq_true h5, decide_eq_false h6]
      go_enter Try.func24, Try.ntmps24
      go_wp2_with fail
      go_ret
      exact ⟨rfl, rfl⟩
  · have h5' : ¬ (128 : Int) ≤ c.toNat := by omega
    rw [decide_eq_false h5, Bool.false_and]
    go_enter Try.func24, Try.ntmps24
    go_wp2_with fail
    go_ret
    exact ⟨rfl, rfl⟩

theorem fits_e (w : World) (f c : UInt8) (h1 : f.toNat ≠ 224) (h2 : f.toNat ≠ 237) (h3 : f.toNat ≠ 240) (h4 : f.toNat ≠ 244) : Calls Try.prog 24 #[.int .u8 (f.toNat : Int), .int .i64 (1 : Int), .int .u8 (c.toNat : Int)] w fun e w' => e = .returned (.bool (fitsN f.toNat 1 c.toNat)) ∧ w' = w := by
  have hl : loN f.toNat = 128 := by unfold loN; split <;> (try split) <;> omega
  have hh : hiN f.toNat = 191 := by unfold hiN; split <;> (try split) <;> omega
  have hv : fitsN f.toNat 1 c.toNat = (decide (128 ≤ c.toNat) && decide (c.toNat ≤ 191)) := by rw [fitsN, if_pos rfl, if_pos rfl, hl, hh]
  have e224 : ((f.toNat : Int) == 224) = false := by simp; omega
  have e237 : ((f.toNat : Int) == 237) = false := by simp; omega
  have e240 : ((f.toNat : Int) == 240) = false := by simp; omega
  have e244 : ((f.toNat : Int) == 244) = false := by simp; omega
  clear h1 h2 h3 h4 hl hh
  rw [hv]
  clear hv
  by_cases h5 : 128 ≤ c.toNat
  · have h5' : (128 : Int) ≤ c.toNat := by omega
    by_cases h6 : c.toNat ≤ 191
    · have h6' : (c.toNat : Int) ≤ 191 := by omega
      rw [decide_eq_true h5, decide_eq_true h6]
      go_enter Try.func24, Try.ntmps24
      go_wp2_with fail
      go_ret
      exact ⟨rfl, rfl⟩
    · have h6' : ¬ (c.toNat : Int) ≤ 191 := by omega
      rw [decide_eq_true h5, decide_eq_false h6]
      go_enter Try.func24, Try.ntmps24
      go_wp2_with fail
      go_ret
      exact ⟨rfl, rfl⟩
  · have h5' : ¬ (128 : Int) ≤ c.toNat := by omega
    rw [decide_eq_false h5, Bool.false_and]
    go_enter Try.func24, Try.ntmps24
    go_wp2_with fail
    go_ret
    exact ⟨rfl, rfl⟩

theorem fits_n (w : World) (f c : UInt8) (i : Nat) (hi : i ≠ 1) : Calls Try.prog 24 #[.int .u8 (f.toNat : Int), .int .i64 ((i : Nat) : Int), .int .u8 (c.toNat : Int)] w fun e w' => e = .returned (.bool (fitsN f.toNat i c.toNat)) ∧ w' = w := by
  have hv : fitsN f.toNat i c.toNat = (decide (128 ≤ c.toNat) && decide (c.toNat ≤ 191)) := by rw [fitsN, if_neg hi, if_neg hi]
  have e0 : ((i : Int) == 1) = false := by simp; omega
  rw [hv]
  clear hv
  by_cases h5 : 128 ≤ c.toNat
  · have h5' : (128 : Int) ≤ c.toNat := by omega
    by_cases h6 : c.toNat ≤ 191
    · have h6' : (c.toNat : Int) ≤ 191 := by omega
      rw [decide_eq_true h5, decide_eq_true h6]
      go_enter Try.func24, Try.ntmps24
      go_wp2_with fail
      go_ret
      exact ⟨rfl, rfl⟩
    · have h6' : ¬ (c.toNat : Int) ≤ 191 := by omega
      rw [decide_eq_true h5, decide_eq_false h6]
      go_enter Try.func24, Try.ntmps24
      go_wp2_with fail
      go_ret
      exact ⟨rfl, rfl⟩
  · have h5' : ¬ (128 : Int) ≤ c.toNat := by omega
    rw [decide_eq_false h5, Bool.false_and]
    go_enter Try.func24, Try.ntmps24
    go_wp2_with fail
    go_ret
    exact ⟨rfl, rfl⟩

theorem fits_any (w : World) (f c : UInt8) (i : Nat) : Calls Try.prog 24 #[.int .u8 (f.toNat : Int), .int .i64 (i : Int), .int .u8 (c.toNat : Int)] w fun e w' => e = .returned (.bool (fitsN f.toNat i c.toNat)) ∧ w' = w := by
  by_cases hi : i = 1
  · subst hi
    by_cases h1 : f.toNat = 224
    · exact fits_a w f c h1
    by_cases h2 : f.toNat = 237
    · exact fits_b w f c h2
    by_cases h3 : f.toNat = 240
    · exact fits_c w f c h3
    by_cases h4 : f.toNat = 244
    · exact fits_d w f c h4
    exact fits_e w f c h1 h2 h3 h4
  · exact fits_n w f c i hi

theorem ext_none (f i : Nat) (l : List UInt8) : ext f i 0 l = 0 := by cases l <;> rfl
theorem ext_end (f i m : Nat) : ext f i m [] = 0 := by cases m <;> rfl
theorem ext_cons (f i m : Nat) (c : UInt8) (l : List UInt8) : ext f i (m + 1) (c :: l) = if fitsN f i c.toNat = true then ext f (i + 1) m l + 1 else 0 := rfl
theorem bgn_cons (f : UInt8) (l : List UInt8) (h : ¬ moreI f.toNat < 0) : bgn (f :: l) = (1 + ext f.toNat 1 (needN f.toNat) l, ext f.toNat 1 (needN f.toNat) l == needN f.toNat) ∧ moreI f.toNat = (needN f.toNat : Nat) := by
  rw [bgn]
  unfold moreI at h ⊢
  by_cases h1 : f.toNat < 128
  · have hn : needN f.toNat = 0 := by unfold needN; split <;> (try split) <;> (try split) <;> omega
    rw [if_pos h1, if_pos h1, hn, ext_none]
    exact ⟨rfl, rfl⟩
  · rw [if_neg h1] at h ⊢
    rw [if_neg h1]
    by_cases h2 : needN f.toNat = 0
    · rw [if_pos h2] at h
      omega
    · rw [if_neg h2]
      rw [if_neg h2]
      exact ⟨rfl, rfl⟩
theorem bgn_no (f : UInt8) (l : List UInt8) (h : moreI f.toNat < 0) : bgn (f :: l) = (0, false) := by
  rw [bgn]
  unfold moreI at h
  by_cases h1 : f.toNat < 128
  · rw [if_pos h1] at h
    omega
  · rw [if_neg h1] at h
    rw [if_neg h1]
    by_cases h2 : needN f.toNat = 0
    · rw [if_pos h2]
    · rw [if_neg h2] at h
      omega

theorem cons_get {l : List UInt8} {f : UInt8} {k : Nat} (hk : 1 ≤ k) : (f :: l)[k]? = l[k - 1]? := by
  obtain ⟨j, rfl⟩ : ∃ j, k = j + 1 := ⟨k - 1, by omega⟩
  rfl

set_option maxHeartbeats 800000 in
theorem begin_any (w : World) (B : Nat) (A : Option Addr) (n c : Nat) (L : List UInt8) (hr : Reads w B 1 A n (cellsOf L)) (hn : n ≤ 1000000) :
    Calls Try.prog 21 #[.slice A n c] w fun e w' => e = .returned (.tuple #[.int .i64 ((bgn L).1 : Nat), .bool (bgn L).2]) ∧ ∃ m, w' = w.drewN m := by
  have hl := reads_len hr
  cases L with
  | nil =>
    simp at hl
    subst hl
    go_enter Try.func21, Try.ntmps21
    go_wp2_with fail
    go_ret2
    exact ⟨rfl, 0, rfl⟩
  | cons f l =>
    have hn0 : ((n : Int) == 0) = false := by simp at hl ⊢; omega
    obtain ⟨ad, rfl, hb, hc0⟩ := reads_byte hr (k := 0) (x := f) rfl
    rw [add_zero_addr] at hc0
    have hn1 : (0 : Int) < n := by simp at hl; omega
    by_cases hneg : moreI f.toNat < 0
    · rw [bgn_no f l hneg]
      go_enter Try.func21, Try.ntmps21
      go_wp2_with fail
      refine (more_any _ f).mono ?_
      rintro e w1 ⟨rfl, rfl⟩
      go_wp2_with fail
      go_ret2
      exact ⟨rfl, 0, rfl⟩
    · obtain ⟨h1, h2⟩ := bgn_cons f l hneg
      rw [h1]
      have hM := Lib.hid (fun (W : World) => more_any W f)
      rw [h2] at hM hneg
      have hle := need_le f.toNat
      have hE := ext_le f.toNat l 1 (needN f.toNat)
      generalize hN : needN f.toNat = N at *
      generalize hEE : ext f.toNat 1 N l = E at *
      have HE := Lib.hid hEE
      clear h1 h2 hEE hN
      go_enter Try.func21, Try.ntmps21
      go_wp2_with fail
      refine (hM.out _).mono ?_
      rintro e w1 ⟨rfl, rfl⟩
      go_wp2_with fail
      go_loopw [5] (fun i wr => ∃ (j m : Nat), i = .int .i64 j ∧ wr = w1.drewN m ∧ 1 ≤ j ∧ j ≤ N + 1 ∧ j ≤ n ∧ E = (j - 1) + ext f.toNat j (N - (j - 1)) (l.drop (j - 1))) (fun i _ => n + 1 - (intOf i).toNat)
      case atStart => exact ⟨1, 0, rfl, rfl, Nat.le_refl _, by omega, by omega, by rw [← HE.out]; simp⟩
      case round =>
        obtain ⟨j, m, rfl, rfl, hj1, hjN, hjn, hE2⟩ := hrel
        have hc0m : (w1.drewN m).cell? ad = some (.int .u8 (f.toNat : Int)) := hc0
        have HF := Lib.hid (fun (W : World) (c : UInt8) => fits_any W f c j)
        have fin : ∀ (v : Nat), v = E → ((j : Int) = (v : Int) + 1) → (1 + E = j ∧ (((j : Int) == (N : Int) + 1) = (E == N))) := by
          intro v hv hj
          refine ⟨by omega, ?_⟩
          rw [Bool.eq_iff_iff]
          simp
          omega
        have HFin := Lib.hid fin
        have HE2 := Lib.hid hE2
        clear fin hE2 hE
        by_cases hk1 : j ≤ N
        · have hk1' : (j : Int) ≤ N := by omega
          obtain ⟨q, hq⟩ : ∃ q, N - (j - 1) = q + 1 := ⟨N - (j - 1) - 1, by omega⟩
          by_cases hk2 : j < n
          · have hk2' : (j : Int) < n := by omega
            obtain ⟨x, hx⟩ : ∃ x, (f :: l)[j]? = some x := ⟨(f :: l)[j]'(by omega), List.getElem?_eq_getElem _⟩
            have hcx : w1.cell? (ad.add j) = some (.int .u8 (x.toNat : Int)) := reads_byte_at hr hx
            rw [cons_get hj1] at hx
            have hdr : l.drop (j - 1) = x :: l.drop j := by
              have h3 := (List.getElem?_eq_some_iff.1 hx)
              rw [List.drop_eq_getElem_cons h3.1, h3.2, show j - 1 + 1 = j by omega]
            by_cases hf : fitsN f.toNat j x.toNat = true
            · have hstep : E = (j + 1 - 1) + ext f.toNat (j + 1) (N - (j + 1 - 1)) (l.drop (j + 1 - 1)) := by
                have := HE2.out
                rw [hq, hdr, ext_cons, if_pos hf] at this
                rw [show N - (j + 1 - 1) = q by omega, show j + 1 - 1 = j by omega]
                omega
              have HS := Lib.hid hstep
              have hfx : ∀ W : World, Calls Try.prog 24 #[.int .u8 (f.toNat : Int), .int .i64 (j : Int), .int .u8 (x.toNat : Int)] W fun e w' => e = .returned (.bool true) ∧ w' = W := fun W => by
                have := fits_any W f x j
                rw [hf] at this
                exact this
              have HFx := Lib.hid hfx
              clear hfx
              have hia0 := fun W => run_index_addr (P := Try.prog) (t := 22) (e := 5) (c := c) (ad := ad) (k := 0) Try.underlying22 (by kernel_rfl) (show 0 < n by omega) W
              have hiaj := fun W => run_index_addr (P := Try.prog) (t := 22) (e := 5) (c := c) (ad := ad) (k := j) Try.underlying22 (by kernel_rfl) hk2 W
              simp only [add_zero_addr, Int.cast_ofNat_Int] at hia0
              clear hdr hx hq hstep hf
              go_wp2_with fail
              go_quiet ((go_at_call 24; exact (HFx.out _).mono fun e w2 h => ⟨h.1, _, h.2⟩))
              go_wp2_with fail
              go_roundw
              case rel => exact ⟨j + 1, _, by go_num, rfl, by omega, by omega, by omega, HS.out⟩
              case measure => simp [intOf]; omega
            · have hE0 : E = j - 1 := by
                have := HE2.out
                rw [hq, hdr, ext_cons, if_neg hf] at this
                omega
              have hf' : fitsN f.toNat j x.toNat = false := by simpa using hf
              have hfx : ∀ W : World, Calls Try.prog 24 #[.int .u8 (f.toNat : Int), .int .i64 (j : Int), .int .u8 (x.toNat : Int)] W fun e w' => e = .returned (.bool false) ∧ w' = W := fun W => by
                have := fits_any W f x j
                rw [hf'] at this
                exact this
              have HFx := Lib.hid hfx
              have HE0 := Lib.hid hE0
              have hia0 := fun W => run_index_addr (P := Try.prog) (t := 22) (e := 5) (c := c) (ad := ad) (k := 0) Try.underlying22 (by kernel_rfl) (show 0 < n by omega) W
              have hiaj := fun W => run_index_addr (P := Try.prog) (t := 22) (e := 5) (c := c) (ad := ad) (k := j) Try.underlying22 (by kernel_rfl) hk2 W
              simp only [add_zero_addr, Int.cast_ofNat_Int] at hia0
              clear hdr hx hq hf hf' hfx hE0
              go_wp2_with fail
              go_quiet ((go_at_call 24; exact (HFx.out _).mono fun e w2 h => ⟨h.1, _, h.2⟩))
              go_wp2_with fail
              go_ret2
              have hE0 := HE0.out
              rw [(HFin.out E rfl (by omega)).1, (HFin.out E rfl (by omega)).2]
              exact ⟨rfl, _, rfl⟩
          · have hk2' : ¬ (j : Int) < n := by omega
            have hE0 : E = j - 1 := by
              have := HE2.out
              rw [show l.drop (j - 1) = [] from List.drop_eq_nil_of_le (by simp at hl; omega), ext_end] at this
              omega
            have HE0 := Lib.hid hE0
            clear hE0 hq
            go_wp2_with fail
            go_quiet (fail)
            go_wp2_with fail
            go_ret2
            have hE0 := HE0.out
            rw [(HFin.out E rfl (by omega)).1, (HFin.out E rfl (by omega)).2]
            exact ⟨rfl, _, rfl⟩
        · have hk1' : ¬ (j : Int) ≤ N := by omega
          have hE0 : E = j - 1 := by
            have := HE2.out
            rw [show N - (j - 1) = 0 by omega, ext_none] at this
            omega
          have HE0 := Lib.hid hE0
          clear hE0
          go_wp2_with fail
          go_quiet (fail)
          go_wp2_with fail
          go_ret2
          have hE0 := HE0.out
          rw [(HFin.out E rfl (by omega)).1, (HFin.out E rfl (by omega)).2]
          exact ⟨rfl, _, rfl⟩
end Go.Proofs.Ytlgffgmfaejmeaa

