/-
  Chapter 1, plain: what the encoding of any rune is told as; how many runes a told text has.
-/
import Derived.Test.YtlgffgmfaejmeaaPlain
import Derived.Laws.Runes
import Derived.Laws.Cover4
namespace Go.Proofs.Ytlgffgmfaejmeaa

theorem lead_fresh (f : UInt8) (h : needN f.toNat ≠ 0) : fresh f = ([], [f]) := by
  have := need_lead h
  rw [fresh, if_neg (by omega), if_pos h]
theorem fixed1 (a : UInt8) (h : a.toNat < 128) : Fixed [a] := by
  have hf : fresh a = ([a], []) := by rw [fresh, if_pos h]
  constructor
  · simp [dOut, step, hf]
  · simp [dHeld, step, hf]
theorem fixed2 (a b : UInt8) (h : needN a.toNat = 1) (h1 : fitsN a.toNat 1 b.toNat = true) : Fixed [a, b] := by
  have hf := lead_fresh a (by omega)
  constructor
  · simp [dOut, step, hf, h, h1]
  · simp [dHeld, step, hf, h, h1]
theorem fixed3 (a b c : UInt8) (h : needN a.toNat = 2) (h1 : fitsN a.toNat 1 b.toNat = true) (h2 : fitsN a.toNat 2 c.toNat = true) : Fixed [a, b, c] := by
  have hf := lead_fresh a (by omega)
  constructor
  · simp [dOut, step, hf, h, h1, h2]
  · simp [dHeld, step, hf, h, h1, h2]
theorem fixed4 (a b c d : UInt8) (h : needN a.toNat = 3) (h1 : fitsN a.toNat 1 b.toNat = true) (h2 : fitsN a.toNat 2 c.toNat = true) (h3 : fitsN a.toNat 3 d.toNat = true) : Fixed [a, b, c, d] := by
  have hf := lead_fresh a (by omega)
  constructor
  · simp [dOut, step, hf, h, h1, h2, h3]
  · simp [dHeld, step, hf, h, h1, h2, h3]
theorem fits_hi {f i c : Nat} (hi : i ≠ 1) (h1 : 128 ≤ c) (h2 : c ≤ 191) : fitsN f i c = true := by
  rw [fitsN, if_neg hi, if_neg hi]
  simp [h1, h2]
theorem fits_one {f c : Nat} (h1 : loN f ≤ c) (h2 : c ≤ hiN f) : fitsN f 1 c = true := by
  rw [fitsN, if_pos rfl, if_pos rfl]
  simp [h1, h2]
theorem nat8 (n : Nat) (h : n < 256) : (UInt8.ofNat n).toNat = n := UInt8.toNat_ofNat_of_lt' (by show n < 256; exact h)

/-- the encoding of any number is told as it is -/
theorem encode_fixed (r : Int) : Fixed (bs (Utf8.encode r)) := by
  obtain ⟨c, hc, hv⟩ : ∃ c : Nat, (if Utf8.valid r then r.toNat else Utf8.runeError) = c ∧ (c < 55296 ∨ (57344 ≤ c ∧ c ≤ 1114111)) := by
    refine ⟨_, rfl, ?_⟩
    by_cases h : Utf8.valid r = true
    · rw [if_pos h]
      simp [Utf8.valid] at h
      omega
    · rw [if_neg h]
      right
      decide
  unfold Utf8.encode
  simp only [hc]
  have h64 : c % 64 < 64 := Nat.mod_lt _ (by decide)
  have h642 : c / 64 % 64 < 64 := Nat.mod_lt _ (by decide)
  have h643 : c / 4096 % 64 < 64 := Nat.mod_lt _ (by decide)
  by_cases h1 : c < 0x80
  · rw [if_pos h1]
    exact fixed1 _ (by rw [nat8 _ (by omega)]; omega)
  · rw [if_neg h1]
    by_cases h2 : c < 0x800
    · rw [if_pos h2]
      refine fixed2 _ _ ?_ ?_
      · rw [nat8 _ (by omega)]
        unfold needN
        rw [if_pos (by omega)]
      · rw [nat8 _ (by omega), nat8 _ (by omega)]
        apply fits_one
        · unfold loN
          rw [if_neg (by omega), if_neg (by omega)]
          omega
        · unfold hiN
          rw [if_neg (by omega), if_neg (by omega)]
          omega
    · rw [if_neg h2]
      by_cases h3 : c < 0x10000
      · rw [if_pos h3]
        refine fixed3 _ _ _ ?_ ?_ ?_
        · rw [nat8 _ (by omega)]
          unfold needN
          rw [if_neg (by omega), if_pos (by omega)]
        · rw [nat8 _ (by omega), nat8 _ (by omega)]
          apply fits_one
          · unfold loN
            split
            · omega
            · split <;> omega
          · unfold hiN
            split
            · omega
            · split <;> omega
        · rw [nat8 _ (by omega), nat8 _ (by omega)]
          exact fits_hi (by decide) (by omega) (by omega)
      · rw [if_neg h3]
        refine fixed4 _ _ _ _ ?_ ?_ ?_ ?_
        · rw [nat8 _ (by omega)]
          unfold needN
          rw [if_neg (by omega), if_neg (by omega), if_pos (by omega)]
        · rw [nat8 _ (by omega), nat8 _ (by omega)]
          apply fits_one
          · unfold loN
            split
            · omega
            · split <;> omega
          · unfold hiN
            split
            · omega
            · split <;> omega
        · rw [nat8 _ (by omega), nat8 _ (by omega)]
          exact fits_hi (by decide) (by omega) (by omega)
        · rw [nat8 _ (by omega), nat8 _ (by omega)]
          exact fits_hi (by decide) (by omega) (by omega)
theorem runesBytes_fixed (ns : List Int) : Fixed (bs (runesBytes ns)) := by
  have key : ∀ (ns : List Int) (s : ByteArray), Fixed (bs s) → Fixed (bs (ns.foldl (fun r n => r ++ Utf8.encode n) s)) := by
    intro ns
    induction ns with
    | nil => intro s h; exact h
    | cons n ns ih =>
      intro s h
      refine ih _ ?_
      rw [bs_append]
      exact h.append (encode_fixed n)
  exact key ns _ Fixed.nil
/-- the runes of a string, as numbers -/
def runeList (s : ByteArray) : Nat → Nat → List Int
  | 0, _ => []
  | b + 1, i => if i < s.size then ((Utf8.decode s i).1 : Int) :: runeList s b (i + (Utf8.decode s i).2) else []
theorem runesFrom_list (s : ByteArray) : ∀ (b i : Nat) (acc : Array Value), Conv.runesFrom s b i acc = acc ++ ((runeList s b i).map (Value.int .i32)).toArray
  | 0, _, acc => by simp [Conv.runesFrom, runeList]
  | b + 1, i, acc => by
    unfold Conv.runesFrom runeList
    split
    · show Conv.runesFrom s b (i + (Utf8.decode s i).2) (acc.push (Value.int IntKind.i32 (Int.ofNat (Utf8.decode s i).1))) = _
      rw [runesFrom_list s b]
      simp
    · simp
theorem runeList_len (s : ByteArray) : ∀ b i, (runeList s b i).length ≤ b
  | 0, _ => by simp [runeList]
  | b + 1, i => by
    unfold runeList
    split
    · have := runeList_len s b (i + (Utf8.decode s i).2)
      simp
      omega
    · simp
end Go.Proofs.Ytlgffgmfaejmeaa
