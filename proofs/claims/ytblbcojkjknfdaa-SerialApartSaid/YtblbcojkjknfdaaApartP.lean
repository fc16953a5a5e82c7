/-
  The text of plain tokens, no two texts beside each other, tells the tokens: plain.
-/
import Derived.Test.YtblbcojkjknfdaaPlainL
import Derived.Test.YtblbcojkjknfdaaKeyP
namespace Go.Proofs.Ytblbcojkjknfdaa

theorem split_at (p : UInt8 → Bool) : ∀ {x y r s : Bys}, (∀ c ∈ x, p c = false) → (∀ c ∈ y, p c = false) → (r = [] ∨ ∃ c t, r = c :: t ∧ p c = true) → (s = [] ∨ ∃ c t, s = c :: t ∧ p c = true) → x ++ r = y ++ s → x = y ∧ r = s := by
  intro x
  induction x with
  | nil =>
    intro y r s _ hy hr _ h
    cases y with
    | nil => exact ⟨rfl, h⟩
    | cons d y =>
      rw [List.nil_append, List.cons_append] at h
      rcases hr with rfl | ⟨c, t, rfl, hc⟩
      · cases h
      · injection h with h1 _
        rw [h1, hy d (by simp)] at hc
        cases hc
  | cons d x ih =>
    intro y r s hx hy hr hs h
    cases y with
    | nil =>
      rw [List.nil_append, List.cons_append] at h
      rcases hs with rfl | ⟨c, t, rfl, hc⟩
      · cases h
      · injection h with h1 _
        rw [← h1, hx d (by simp)] at hc
        cases hc
    | cons e y =>
      rw [List.cons_append, List.cons_append] at h
      injection h with h1 h2
      obtain ⟨h3, h4⟩ := ih (fun c hc => hx c (by simp [hc])) (fun c hc => hy c (by simp [hc])) hr hs h2
      exact ⟨by rw [h1, h3], h4⟩
theorem word_bytes {l : Bys} (h : wordB l = true) : (∀ c ∈ l, wcB c = true) ∧ ∃ c t, l = c :: t ∧ smB c = true := by
  unfold wordB at h
  simp only [Bool.and_eq_true, decide_eq_true_eq, List.all_eq_true] at h
  obtain ⟨⟨_, h2⟩, h3⟩ := h
  refine ⟨h3, ?_⟩
  cases l with
  | nil => cases h2
  | cons c t => exact ⟨c, t, rfl, h2⟩
theorem wc_not {c : UInt8} (h : wcB c = true) : c ≠ 32 ∧ c ≠ 62 ∧ c ≠ 61 ∧ c ≠ 47 := by
  refine ⟨?_, ?_, ?_, ?_⟩ <;> (rintro rfl; revert h; decide +kernel)
/-- a start tag's attributes told by their text -/
theorem ats_inj : ∀ {a b : List Atr} {r s : Bys}, (∀ x ∈ a, wordB (bs x.1) = true) → (∀ x ∈ b, wordB (bs x.1) = true) → atsS a ++ 62 :: r = atsS b ++ 62 :: s → a = b ∧ r = s := by
  intro a
  induction a with
  | nil =>
    intro b r s _ _ h
    cases b with
    | nil => exact ⟨rfl, by injection h⟩
    | cons y b =>
      exfalso
      have h2 := congrArg List.head? h
      simp [atsS, atS] at h2
  | cons x a ih =>
    intro b r s ha hb h
    cases b with
    | nil =>
      exfalso
      have h2 := congrArg List.head? h
      simp [atsS, atS] at h2
    | cons y b =>
      have e : ∀ (z : Atr) (l : List Atr) (t : Bys), atsS (z :: l) ++ 62 :: t = 32 :: (bs z.1 ++ 61 :: 34 :: (escB true (bs z.2) ++ 34 :: (atsS l ++ 62 :: t))) := fun z l t => by simp [atsS, atS]
      rw [e, e] at h
      injection h with _ h
      obtain ⟨h1, h2⟩ := split_at (fun c => decide (c = 61)) (fun c hc => decide_eq_false (wc_not ((word_bytes (ha x (by simp))).1 c hc)).2.2.1) (fun c hc => decide_eq_false (wc_not ((word_bytes (hb y (by simp))).1 c hc)).2.2.1) (.inr ⟨61, _, rfl, rfl⟩) (.inr ⟨61, _, rfl, rfl⟩) h
      injection h2 with _ h2
      injection h2 with _ h2
      obtain ⟨h3, h4⟩ := split_at (fun c => decide (c = 34)) (fun c hc => decide_eq_false ((esc_none true _ c hc).2.2 rfl)) (fun c hc => decide_eq_false ((esc_none true _ c hc).2.2 rfl)) (.inr ⟨34, _, rfl, rfl⟩) (.inr ⟨34, _, rfl, rfl⟩) h2
      injection h4 with _ h4
      obtain ⟨h5, h6⟩ := ih (fun z hz => ha z (by simp [hz])) (fun z hz => hb z (by simp [hz])) h4
      exact ⟨by rw [h5, Prod.ext (bs_inj h1) (bs_inj (esc_inj h3))], h6⟩
/-- what a plain token is -/
inductive Shape (t : Tok) : Prop where
  | text (h : key t = (1, str [], t.data, false, [])) (he : bs t.data ≠ []) (ho : oneB t = escB false (bs t.data))
  | start (h : key t = (2, t.name, str [], false, t.ats)) (hw : wordB (bs t.name) = true) (ha : ∀ x ∈ t.ats, wordB (bs x.1) = true) (ho : oneB t = 60 :: (bs t.name ++ (atsS t.ats ++ [62])))
  | stop (h : key t = (3, t.name, str [], false, [])) (hw : wordB (bs t.name) = true) (ho : oneB t = 60 :: 47 :: (bs t.name ++ [62]))
theorem noB_str {s : ByteArray} (h : noB s = true) : s = str [] := by
  have h : s.size = 0 := of_decide_eq_true h
  apply bs_inj
  rw [size_bs] at h
  rw [List.length_eq_zero_iff.1 h]
  rfl
theorem shape {t : Tok} (hl : t.ats.length = t.n) (h : plainB t = true) : Shape t := by
  unfold plainB at h
  by_cases h1 : t.kind = 1
  · rw [if_pos h1] at h
    simp only [Bool.and_eq_true, Bool.not_eq_true', decide_eq_true_eq] at h
    obtain ⟨⟨⟨a, b⟩, c⟩, d⟩ := h
    refine .text ?_ ?_ ?_
    · unfold key
      rw [h1, noB_str b, d, List.length_eq_zero_iff.1 (hl.trans c)]
    · intro e
      have : noB t.data = true := decide_eq_true (by rw [size_bs, e]; rfl)
      rw [this] at a
      cases a
    · unfold oneB
      rw [if_pos h1]
  · rw [if_neg h1] at h
    by_cases h2 : t.kind = 2
    · rw [if_pos h2] at h
      simp only [Bool.and_eq_true, Bool.not_eq_true', decide_eq_true_eq] at h
      obtain ⟨⟨⟨⟨a, _⟩, b⟩, c⟩, d⟩ := h
      refine .start ?_ a ?_ ?_
      · unfold key
        rw [h2, noB_str b, c]
      · intro x hx
        unfold fineB at d
        simp only [Bool.and_eq_true, Bool.not_eq_true', List.any_eq_false] at d
        have := d.2 x hx
        unfold oddA at this
        cases hw : wordB (bs x.1) with
        | true => rfl
        | false => rw [hw] at this; exact absurd rfl this
      · unfold oneB
        rw [if_neg h1, if_neg (by rw [h2]; decide), if_pos h2]
        simp
    · rw [if_neg h2] at h
      by_cases h3 : t.kind = 3
      · rw [if_pos h3] at h
        simp only [Bool.and_eq_true, Bool.not_eq_true', decide_eq_true_eq] at h
        obtain ⟨⟨⟨a, b⟩, c⟩, d⟩ := h
        refine .stop ?_ a ?_
        · unfold key
          rw [h3, noB_str b, d, List.length_eq_zero_iff.1 (hl.trans c)]
        · unfold oneB
          rw [if_neg h1, if_pos h3]
          simp
      · rw [if_neg h3] at h
        cases h
theorem head_all {l : List Tok} (hl : ∀ t ∈ l, t.ats.length = t.n) (h : apartB true l = true) : allB l = [] ∨ ∃ c t, allB l = c :: t ∧ decide (c = 60) = true := by
  cases l with
  | nil => exact .inl rfl
  | cons t l =>
    right
    rw [apartB] at h
    simp only [Bool.and_eq_true] at h
    rcases shape (hl t (by simp)) h.1.1 with ⟨hk, _, _⟩ | ⟨_, _, _, ho⟩ | ⟨_, _, ho⟩
    · exfalso
      have : t.kind = 1 := congrArg (·.1) hk
      have h2 := h.1.2
      rw [this] at h2
      exact absurd h2 (by decide)
    · exact ⟨60, _, by show oneB t ++ allB l = _; rw [ho]; rfl, rfl⟩
    · exact ⟨60, _, by show oneB t ++ allB l = _; rw [ho]; rfl, rfl⟩
theorem one_ne {t : Tok} (h : Shape t) : oneB t ≠ [] := by
  rcases h with ⟨_, he, ho⟩ | ⟨_, _, _, ho⟩ | ⟨_, _, ho⟩
  · rw [ho]
    exact fun h => he (esc_nil.1 h)
  · rw [ho]; simp
  · rw [ho]; simp
theorem text_head {t : Bys} (he : t ≠ []) (r s : Bys) : escB false t ++ r ≠ 60 :: s := by
  intro h
  cases hx : escB false t with
  | nil => exact he (esc_nil.1 hx)
  | cons c x =>
    rw [hx] at h
    injection h with h _
    exact (esc_none false t c (by rw [hx]; simp)).1 h
theorem sixty {t : Bys} : ∀ c ∈ escB false t, decide (c = 60) = false := fun c hc => decide_eq_false (esc_none false t c hc).1
theorem all_inj : ∀ {a b : List Tok} {x : Bool}, (∀ t ∈ a, t.ats.length = t.n) → (∀ t ∈ b, t.ats.length = t.n) → apartB x a = true → apartB x b = true → allB a = allB b → a.map key = b.map key := by
  intro a
  induction a with
  | nil =>
    intro b x _ hb _ h2 h
    cases b with
    | nil => rfl
    | cons u b =>
      exfalso
      rw [apartB] at h2
      simp only [Bool.and_eq_true] at h2
      have h : ([] : Bys) = oneB u ++ allB b := h
      exact one_ne (shape (hb u (by simp)) h2.1.1) (List.append_eq_nil_iff.1 h.symm).1
  | cons t a ih =>
    intro b x ha hb h1 h2 h
    rw [apartB] at h1
    simp only [Bool.and_eq_true] at h1
    have st := shape (ha t (by simp)) h1.1.1
    cases b with
    | nil =>
      exfalso
      have h : oneB t ++ allB a = ([] : Bys) := h
      exact one_ne st (List.append_eq_nil_iff.1 h).1
    | cons u b =>
      rw [apartB] at h2
      simp only [Bool.and_eq_true] at h2
      have su := shape (hb u (by simp)) h2.1.1
      have h : oneB t ++ allB a = oneB u ++ allB b := h
      have fin : key t = key u → allB a = allB b → (t :: a).map key = (u :: b).map key := fun hk hr => by
        have e : t.kind = u.kind := congrArg (·.1) hk
        rw [List.map_cons, List.map_cons, hk, ih (x := decide (t.kind = 1)) (fun z hz => ha z (by simp [hz])) (fun z hz => hb z (by simp [hz])) h1.2 (by rw [e]; exact h2.2) hr]
      rcases st with ⟨k1, n1, o1⟩ | ⟨k1, w1, a1, o1⟩ | ⟨k1, w1, o1⟩ <;> rcases su with ⟨k2, n2, o2⟩ | ⟨k2, w2, a2, o2⟩ | ⟨k2, w2, o2⟩ <;> rw [o1, o2] at h
      · have e1 : t.kind = 1 := congrArg (·.1) k1
        have e2 : u.kind = 1 := congrArg (·.1) k2
        have g1 := h1.2
        have g2 := h2.2
        rw [e1] at g1
        rw [e2] at g2
        obtain ⟨q1, q2⟩ := split_at (fun c => decide (c = 60)) sixty sixty (head_all (fun z hz => ha z (by simp [hz])) g1) (head_all (fun z hz => hb z (by simp [hz])) g2) h
        exact fin (by rw [k1, k2, bs_inj (esc_inj q1)]) q2
      · exact (text_head n1 _ _ h).elim
      · exact (text_head n1 _ _ h).elim
      · exact (text_head n2 _ _ h.symm).elim
      · have h : bs t.name ++ (atsS t.ats ++ 62 :: allB a) = bs u.name ++ (atsS u.ats ++ 62 :: allB b) := by simpa using h
        have hd : ∀ (l : List Atr) (r : Bys), ∃ c t, atsS l ++ 62 :: r = c :: t ∧ (decide (c = 32) || decide (c = 62)) = true := fun l r => by
          cases l with
          | nil => exact ⟨62, r, rfl, rfl⟩
          | cons z l => exact ⟨32, _, by show (32 :: _ : Bys) = _; rfl, rfl⟩
        obtain ⟨q1, q2⟩ := split_at (fun c => decide (c = 32) || decide (c = 62)) (fun c hc => by have := wc_not ((word_bytes w1).1 c hc); simp [this.1, this.2.1]) (fun c hc => by have := wc_not ((word_bytes w2).1 c hc); simp [this.1, this.2.1]) (.inr (hd _ _)) (.inr (hd _ _)) h
        obtain ⟨q3, q4⟩ := ats_inj a1 a2 q2
        exact fin (by rw [k1, k2, bs_inj q1, q3]) q4
      · exfalso
        obtain ⟨c, l, hc, hs⟩ := (word_bytes w1).2
        rw [hc] at h
        injection h with _ h
        injection h with h _
        rw [h] at hs
        exact absurd hs (by decide +kernel)
      · exact (text_head n2 _ _ h.symm).elim
      · exfalso
        obtain ⟨c, l, hc, hs⟩ := (word_bytes w2).2
        rw [hc] at h
        injection h with _ h
        injection h with h _
        rw [← h] at hs
        exact absurd hs (by decide +kernel)
      · have h : bs t.name ++ 62 :: allB a = bs u.name ++ 62 :: allB b := by simpa using h
        obtain ⟨q1, q2⟩ := split_at (fun c => decide (c = 62)) (fun c hc => decide_eq_false (wc_not ((word_bytes w1).1 c hc)).2.1) (fun c hc => decide_eq_false (wc_not ((word_bytes w2).1 c hc)).2.1) (.inr ⟨62, _, rfl, rfl⟩) (.inr ⟨62, _, rfl, rfl⟩) h
        injection q2 with _ q2
        exact fin (by rw [k1, k2, bs_inj q1]) q2
def oneK (k : KeyT) : Bys := if k.1 = 1 then escB false (bs k.2.2.1) else if k.1 = 3 then [60, 47] ++ bs k.2.1 ++ [62] else if k.1 = 2 then [60] ++ bs k.2.1 ++ atsS k.2.2.2.2 ++ [62] else []
theorem all_key (l : List Tok) : allB l = (l.map key).flatMap oneK := by
  unfold allB
  rw [List.flatMap_map]
  rfl
theorem all_iff {a b : List Tok} (ha : ∀ t ∈ a, t.ats.length = t.n) (hb : ∀ t ∈ b, t.ats.length = t.n) (h1 : apartB false a = true) (h2 : apartB false b = true) : allB a = allB b ↔ a.map key = b.map key :=
  ⟨all_inj ha hb h1 h2, fun h => by rw [all_key, all_key, h]⟩
end Go.Proofs.Ytblbcojkjknfdaa
