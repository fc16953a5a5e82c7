/-
  What an escaped text is, run by run: plain. Where the first & of a text lies: plain.
-/
import Derived.Test.YtblbcojkjknfdaaDoorEscP
import Derived.Lib.IndexLaws
namespace Go.Proofs.YtblbcojkjknfdaaDoor

/-- the names that an escaped text holds, and what they stand for -/
def four : List (Bys × Bys) := [([97, 109, 112, 59], [38]), ([108, 116, 59], [60]), ([103, 116, 59], [62]), ([110, 98, 115, 112, 59], [194, 160])]
theorem piece_cases (c : UInt8) : (pieceB false c = [c] ∧ c ≠ 38) ∨ ∃ nm, (nm, [c]) ∈ four ∧ pieceB false c = 38 :: nm := by
  by_cases h1 : c = 38
  · subst h1; exact .inr ⟨[97, 109, 112, 59], by decide, rfl⟩
  by_cases h2 : c = 60
  · subst h2; exact .inr ⟨[108, 116, 59], by decide, rfl⟩
  by_cases h3 : c = 62
  · subst h3; exact .inr ⟨[103, 116, 59], by decide, rfl⟩
  exact .inl ⟨by unfold pieceB; simp [h1, h2, h3], h1⟩
theorem esc_run (m : Bys) : ∃ p q, m = p ++ q ∧ escB false m = p ++ escB false q ∧ (∀ c ∈ p, c ≠ 38) ∧ (q = [] ∨ ∃ nm ch r, (nm, ch) ∈ four ∧ q = ch ++ r ∧ escB false q = 38 :: (nm ++ escB false r)) := by
  induction hn : m.length using Nat.strongRecOn generalizing m with
  | ind n ih =>
    cases m with
    | nil => exact ⟨[], [], rfl, rfl, by simp, .inl rfl⟩
    | cons c l =>
      by_cases hb : c = 194 ∧ l.head? = some 160
      · obtain ⟨rfl, hh⟩ := hb
        obtain ⟨t, rfl⟩ : ∃ t, l = 160 :: t := by
          cases l with
          | nil => cases hh
          | cons d t => exact ⟨t, by injection hh with h; rw [h]⟩
        exact ⟨[], _, rfl, rfl, by simp, .inr ⟨[110, 98, 115, 112, 59], [194, 160], t, by decide, rfl, by rw [escB_nbsp]; rfl⟩⟩
      · rcases piece_cases c with ⟨hp, hc⟩ | ⟨nm, hm, hp⟩
        · obtain ⟨p, q, h1, h2, h3, h4⟩ := ih l.length (by rw [← hn]; simp) l rfl
          refine ⟨c :: p, q, by rw [h1]; rfl, ?_, ?_, h4⟩
          · rw [escB_cons false c l hb, hp, h2]
            rfl
          · intro x hx
            rcases List.mem_cons.1 hx with rfl | hx
            · exact hc
            · exact h3 x hx
        · exact ⟨[], _, rfl, rfl, by simp, .inr ⟨nm, [c], l, hm, rfl, by rw [escB_cons false c l hb, hp]; rfl⟩⟩
end Go.Proofs.YtblbcojkjknfdaaDoor

namespace Go.Proofs.YtblbcojkjknfdaaDoor

theorem index_miss : ∀ {p : Bys}, (∀ c ∈ p, c ≠ 38) → Lib.indexByte p 38 = -1
  | [], _ => rfl
  | b :: l, h => by
    have hb : (b == 38) = false := by simpa using h b (by simp)
    have ih := index_miss (p := l) fun c hc => h c (by simp [hc])
    unfold Lib.indexByte
    rw [hb, ih]
    rfl
theorem index_hit : ∀ {p : Bys} (t : Bys), (∀ c ∈ p, c ≠ 38) → Lib.indexByte (p ++ 38 :: t) 38 = (p.length : Int)
  | [], _, _ => rfl
  | b :: l, t, h => by
    have hb : (b == 38) = false := by simpa using h b (by simp)
    have ih := index_hit (p := l) t fun c hc => h c (by simp [hc])
    rw [List.cons_append]
    unfold Lib.indexByte
    rw [hb, ih, List.length_cons]
    have : ((l.length : Int) == -1) = false := by simp
    rw [this]
    simp
end Go.Proofs.YtblbcojkjknfdaaDoor
