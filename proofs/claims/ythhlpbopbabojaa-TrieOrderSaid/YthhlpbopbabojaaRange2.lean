/-
  A loop over an iterator, where no round leaves the loop: the iterator turns the blocks T, each round leaves the blocks Kp alone.
-/
import Derived.Test.YthhlpbopbabojaaTurn
namespace Go.Proofs.Ythhlpbopbabojaa
open Go.RowKit

/-- the blocks Kp lie as they lay -/
def Kept (Kp : Nat → Prop) (A B : World) : Prop := ∀ k, Kp k → B.heap[k]? = A.heap[k]?
theorem Kept.trans {Kp : Nat → Prop} {A B C : World} (h : Kept Kp A B) (g : Kept Kp B C) : Kept Kp A C := fun k hk => (g k hk).trans (h k hk)
theorem Kept.refl (Kp : Nat → Prop) (A : World) : Kept Kp A A := fun _ _ => rfl

/-- THE ITERATOR's WORD: for whatever abides its steps and is carried on by each round, all has come. -/
def GivesOn {α : Type} (F : Fence) (n : Nat) (P : Program) (g : Nat) (lb : Array Value) (encs : α → Array Value) (T Kp : Nat → Prop) (S : List α → Prop) (w : World) : Prop :=
  ∀ (l : Nat) (J : List α → World → Prop) (W : World), Fr Nil w W → (∀ s A B, J s A → Fr T A B → J s B) →
    (∀ pre x A, J pre A → YieldAt F (n - 1) P l (encs x) A fun e B => e = .returned (.bool true) ∧ J (pre ++ [x]) B ∧ Kept Kp A B) →
    J [] W → CallsIn F n P g (#[.func (.yield l) #[] #[]] ++ lb) W fun e B => (∃ v, e = .returned v) ∧ ∃ xs, S xs ∧ J xs B

/-- how a round's body is left -/
def roundOn {α : Type} (D : Nat) (Kp : Nat → Prop) (I : List α → World → Prop) (xs : List α) (W : World) : Exit → Act → World → Prop
  | .normal, _, W' => KeepsFrom D W W' ∧ Kept Kp W W' ∧ I xs W'
  | _, _, _ => False

variable {F : Fence} {n : Nat} {P : Program}

theorem wpIn_range_on {α : Type} {g : Operand} {ps : Array Tmp} {assign body : Code} {Q : Exit → Act → World → Prop} {a : Act} {w : World} {gf : Nat} {lb : Array Value} {encs : α → Array Value} {T Kp : Nat → Prop} {S : List α → Prop}
    (hro : F.round = none) (h1 : 1 ≤ n) (hg : a.eval g = .func (.func gf) #[] lb) (hFg : F.fn gf) (eg : ∀ args w, (callFunc gf args).run P w = .ok (.enter gf args) w)
    (hseq : GivesOn F (n - 1) P gf lb encs T Kp S w) (hps : ∀ x, (encs x).size = ps.size) (hTn : ∀ k, T k → k < w.heap.size) (hKn : ∀ k, Kp k → k < w.heap.size)
    (I : List α → World → Prop) (hI : OwnFrom w.heap.size I) (hIt : ∀ s A B, I s A → Fr T A B → I s B) (h0 : I [] w) (a₁ : α → Act)
    (hassign : ∀ (l : Nat) (x : α) (W : World) (K : Act → World → Prop), K (a₁ x) W →
      assign.wpIn (F.inRound l) (n - 1 - 1) P (Exit.then K (fun _ _ _ => False)) { tmps := (ps.zip (encs x)).foldl (fun t (p, v) => t.setIfInBounds p v) a.tmps, defers := [] } W)
    (hbody : ∀ (l : Nat) (pre : List α) (x : α) (W : World), I pre W → body.wpIn (F.inRound l) (n - 1 - 1) P (roundOn w.heap.size Kp I (pre ++ [x]) W) (a₁ x) W)
    (hdone : ∀ (D : Nat) (xs : List α) (W : World), w.heap.size ≤ D → S xs → I xs W → W.heap[D]? = some (.deferred (some [])) → Q .normal { a with defers := { target := .collected D, args := #[] } :: a.defers } W) :
    (Code.rangeFunc g ps assign body).wpIn F n P Q a w := by
  refine wpIn_rangeFunc fun fn hfn => ?_
  rw [hro]
  generalize hD : w.heap.size = D at *
  let rc : LoopState → Loop := fun st => { state := st, pending := none, fn := fn, tmps := a.tmps, params := ps, assign := assign, body := body, defers := D }
  let W1 : World := (w.alloc (.deferred (some []))).alloc (.loop (rc .ready))
  have hsz : (w.alloc (.deferred (some []))).heap.size = D + 1 := by simp [hD]
  have hdef : W1.heap[D]? = some (.deferred (some [])) := by
    have h := heap_alloc_new w (.deferred (some []))
    rw [hD] at h
    exact (Below.heap_alloc _ _ _ (by omega)).trans h
  have hrec : W1.heap[D + 1]? = some (.loop (rc .ready)) := by
    have h := heap_alloc_new (w.alloc (.deferred (some []))) (.loop (rc .ready))
    rwa [hsz] at h
  have henter := run_enterLoop_outer (P := P) (w := w) fn a.tmps ps assign body
  rw [hD] at henter
  refine ⟨D + 1, [{ target := .collected D, args := #[] }], W1, { target := .fn (.func gf) lb, args := #[.func (.yield (D + 1)) #[] #[]] }, W1, gf, #[.func (.yield (D + 1)) #[] #[]] ++ lb, W1, henter, ?_, ?_, ?_, fun _ => h1, ?_⟩
  · simp only [resolve, hg]
    simp [go_sem]
  · intro f' hf'
    simp [Target.leads] at hf'
    subst hf'
    exact hFg
  · simp [invoke, go_sem, eg]
  -- between two rounds
  let J : List α → World → Prop := fun s W => I s W ∧ W.heap[D + 1]? = some (.loop (rc .ready)) ∧ W.heap[D]? = some (.deferred (some []))
  have hstep : ∀ (W : World) (st st' : LoopState) (s : List α), I s W → W.heap[D + 1]? = some (.loop (rc st)) → W.heap[D]? = some (.deferred (some [])) →
      I s (W.putObj (D + 1) (.loop (rc st'))) ∧ (W.putObj (D + 1) (.loop (rc st'))).heap[D + 1]? = some (.loop (rc st')) ∧
      (W.putObj (D + 1) (.loop (rc st'))).heap[D]? = some (.deferred (some [])) ∧ Kept Kp W (W.putObj (D + 1) (.loop (rc st'))) := fun W st st' s hi hl hd =>
    ⟨hI.putObj _ hi (by omega) hl rfl, World.putObj_heap_same (Array.getElem?_eq_some_iff.1 hl).1, (World.putObj_heap_other (by omega)).trans hd, fun k hk => World.putObj_heap_other (by have := hKn k hk; omega)⟩
  refine (hseq (D + 1) J W1 (((Fr.rfl' _ _).alloc _).alloc _) (fun s A B hs ht => ?_) (fun pre x A hj => ?_) ⟨hI.alloc _ (hI.alloc _ h0), hrec, hdef⟩).mono ?_
  · obtain ⟨hi, hl, hd⟩ := hs
    exact ⟨hIt s A B hi ht, (ht.block _ (Array.getElem?_eq_some_iff.1 hl).1 (fun h => by have := hTn _ h; omega)).trans hl, (ht.block _ (Array.getElem?_eq_some_iff.1 hd).1 (fun h => by have := hTn _ h; omega)).trans hd⟩
  · obtain ⟨hi, hl, hd⟩ := hj
    refine ⟨fn, _, assign, body, run_yield hl (hps x), roundIn_of_wpIn hfn (hassign _ x A _ ⟨_, run_beginRound hl rfl, ?_⟩)⟩
    obtain ⟨hi2, hl2, hd2, hn2⟩ := hstep A .ready .busy pre hi hl hd
    refine wpIn_mono (hbody (D + 1) pre x _ hi2) fun e a3 W3 hp => ?_
    cases e with
    | normal =>
      obtain ⟨hk, hkn, hi3⟩ := hp
      have hl3 := hk.same _ _ (by omega) hl2 rfl
      have hd3 := hk.same _ _ (Nat.le_refl _) hd2 rfl
      obtain ⟨hi4, hl4, hd4, hn4⟩ := hstep W3 .busy .ready _ hi3 hl3 hd3
      exact ⟨_, _, run_endRound none hl3, rfl, ⟨hi4, hl4, hd4⟩, (hn2.trans hkn).trans hn4⟩
    | _ => exact hp.elim
  · rintro e W2 ⟨⟨v, rfl⟩, xs, hS, hi, hl, hd⟩
    obtain ⟨hi2, hl2, hd2, _⟩ := hstep W2 .ready .exhausted xs hi hl hd
    exact ⟨none, _, run_endLoop hl (by simp [rc]), hdone D xs _ (Nat.le_refl _) hS hi2 hd2⟩

end Go.Proofs.Ythhlpbopbabojaa
