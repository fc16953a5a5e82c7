/-
  A loop over an iterator that keeps its state in one captured variable (block Bn): the statement, where no round leaves the loop.
-/
import Derived.Test.YthhlpbopbabojaaTurn
namespace Go.Proofs.Ythhlpbopbabojaa
open Go.RowKit

/-- the iterator turns its own variable's block, and lays new ones -/
abbrev Own1 (Bn : Nat) (W W' : World) : Prop := Fr (fun i => i = Bn) W W'

/-- THE ITERATOR's WORD: for whatever abides its steps and is carried on by each round (a round leaves block Bn alone), all has come. -/
def GivesAll {α : Type} (F : Fence) (n : Nat) (P : Program) (g : Nat) (lb : Array Value) (encs : α → Array Value) (Bn : Nat) (S : List α → Prop) (N : Nat) (w : World) : Prop :=
  ∀ (l : Nat) (J : List α → World → Prop) (W : World), Fr Nil w W → (∀ s A B, J s A → Own1 Bn A B → J s B) →
    (∀ pre x A, J pre A → pre.length < N → YieldAt F (n - 1) P l (encs x) A fun e B => e = .returned (.bool true) ∧ J (pre ++ [x]) B ∧ B.heap[Bn]? = A.heap[Bn]?) →
    J [] W → CallsIn F n P g (#[.func (.yield l) #[] #[]] ++ lb) W fun e B => (∃ v, e = .returned v) ∧ ∃ xs, S xs ∧ J xs B

/-- how a round's body is left -/
def roundAll {α : Type} (D Bn : Nat) (I : List α → World → Prop) (xs : List α) (W : World) : Exit → Act → World → Prop
  | .normal, _, W' => KeepsFrom D W W' ∧ W'.heap[Bn]? = W.heap[Bn]? ∧ I xs W'
  | _, _, _ => False

variable {F : Fence} {n : Nat} {P : Program}

theorem wpIn_range_all {α : Type} {g : Operand} {ps : Array Tmp} {assign body : Code} {Q : Exit → Act → World → Prop} {a : Act} {w : World} {gf : Nat} {lb : Array Value} {encs : α → Array Value} {Bn : Nat} {S : List α → Prop} {N : Nat}
    (hro : F.round = none) (h1 : 1 ≤ n) (hg : a.eval g = .func (.func gf) #[] lb) (hFg : F.fn gf) (eg : ∀ args w, (callFunc gf args).run P w = .ok (.enter gf args) w)
    (hseq : GivesAll F (n - 1) P gf lb encs Bn S N w) (hps : ∀ x, (encs x).size = ps.size) (hBn : Bn < w.heap.size)
    (I : List α → World → Prop) (hI : OwnFrom w.heap.size I) (hIt : ∀ s A B, I s A → Own1 Bn A B → I s B) (h0 : I [] w) (a₁ : α → Act)
    (hassign : ∀ (l : Nat) (x : α) (W : World) (K : Act → World → Prop), K (a₁ x) W →
      assign.wpIn (F.inRound l) (n - 1 - 1) P (Exit.then K (fun _ _ _ => False)) { tmps := (ps.zip (encs x)).foldl (fun t (p, v) => t.setIfInBounds p v) a.tmps, defers := [] } W)
    (hbody : ∀ (l : Nat) (pre : List α) (x : α) (W : World), I pre W → pre.length < N → body.wpIn (F.inRound l) (n - 1 - 1) P (roundAll w.heap.size Bn I (pre ++ [x]) W) (a₁ x) W)
    (hdone : ∀ (D : Nat) (xs : List α) (W : World), w.heap.size ≤ D → S xs → I xs W → W.heap[D]? = some (.deferred (some [])) → Q .normal { a with defers := { target := .collected D, args := #[] } :: a.defers } W) :
    (Code.rangeFunc g ps assign body).wpIn F n P Q a w := by
  refine wpIn_rangeFunc fun fn hfn => ?_
  rw [hro]
  generalize hD : w.heap.size = D at *
  let rc : LoopState → Loop := fun st => { state := st, pending := none, fn := fn, tmps := a.tmps, params := ps, assign := assign, body := body, defers := D }
  let W1 : World := (w.alloc (.deferred (some []))).alloc (.loop (rc .ready))
  have hsz : (w.alloc (.deferred (some []))).heap.size = D + 1 := by simp [hD]
  have hdef : W1.heap[D]? = some (.deferred (some [])) := by
    have h := heap_alloc_new w (.deferred (some []))
    rw [hD] at h
    exact (Below.heap_alloc _ _ _ (by omega)).trans h
  have hrec : W1.heap[D + 1]? = some (.loop (rc .ready)) := by
    have h := heap_alloc_new (w.alloc (.deferred (some []))) (.loop (rc .ready))
    rwa [hsz] at h
  have henter := run_enterLoop_outer (P := P) (w := w) fn a.tmps ps assign body
  rw [hD] at henter
  refine ⟨D + 1, [{ target := .collected D, args := #[] }], W1, { target := .fn (.func gf) lb, args := #[.func (.yield (D + 1)) #[] #[]] }, W1, gf, #[.func (.yield (D + 1)) #[] #[]] ++ lb, W1, henter, ?_, ?_, ?_, fun _ => h1, ?_⟩
  · simp only [resolve, hg]
    simp [go_sem]
  · intro f' hf'
    simp [Target.leads] at hf'
    subst hf'
    exact hFg
  · simp [invoke, go_sem, eg]
  -- between two rounds
  let J : List α → World → Prop := fun s W => I s W ∧ W.heap[D + 1]? = some (.loop (rc .ready)) ∧ W.heap[D]? = some (.deferred (some []))
  have hstep : ∀ (W : World) (st st' : LoopState) (s : List α), I s W → W.heap[D + 1]? = some (.loop (rc st)) → W.heap[D]? = some (.deferred (some [])) →
      I s (W.putObj (D + 1) (.loop (rc st'))) ∧ (W.putObj (D + 1) (.loop (rc st'))).heap[D + 1]? = some (.loop (rc st')) ∧
      (W.putObj (D + 1) (.loop (rc st'))).heap[D]? = some (.deferred (some [])) ∧ (W.putObj (D + 1) (.loop (rc st'))).heap[Bn]? = W.heap[Bn]? := fun W st st' s hi hl hd =>
    ⟨hI.putObj _ hi (by omega) hl rfl, World.putObj_heap_same (Array.getElem?_eq_some_iff.1 hl).1, (World.putObj_heap_other (by omega)).trans hd, World.putObj_heap_other (by omega)⟩
  refine (hseq (D + 1) J W1 (((Fr.rfl' _ _).alloc _).alloc _) (fun s A B hs ht => ?_) (fun pre x A hj hlen => ?_) ⟨hI.alloc _ (hI.alloc _ h0), hrec, hdef⟩).mono ?_
  · obtain ⟨hi, hl, hd⟩ := hs
    exact ⟨hIt s A B hi ht, (ht.block _ (Array.getElem?_eq_some_iff.1 hl).1 (by omega)).trans hl, (ht.block _ (Array.getElem?_eq_some_iff.1 hd).1 (by omega)).trans hd⟩
  · obtain ⟨hi, hl, hd⟩ := hj
    refine ⟨fn, _, assign, body, run_yield hl (hps x), roundIn_of_wpIn hfn (hassign _ x A _ ⟨_, run_beginRound hl rfl, ?_⟩)⟩
    obtain ⟨hi2, hl2, hd2, hn2⟩ := hstep A .ready .busy pre hi hl hd
    refine wpIn_mono (hbody (D + 1) pre x _ hi2 hlen) fun e a3 W3 hp => ?_
    cases e with
    | normal =>
      obtain ⟨hk, hkn, hi3⟩ := hp
      have hl3 := hk.same _ _ (by omega) hl2 rfl
      have hd3 := hk.same _ _ (Nat.le_refl _) hd2 rfl
      obtain ⟨hi4, hl4, hd4, hn4⟩ := hstep W3 .busy .ready _ hi3 hl3 hd3
      exact ⟨_, _, run_endRound none hl3, rfl, ⟨hi4, hl4, hd4⟩, hn4.trans (hkn.trans hn2)⟩
    | _ => exact hp.elim
  · rintro e W2 ⟨⟨v, rfl⟩, xs, hS, hi, hl, hd⟩
    obtain ⟨hi2, hl2, hd2, _⟩ := hstep W2 .ready .exhausted xs hi hl hd
    exact ⟨none, _, run_endLoop hl (by simp [rc]), hdone D xs _ (Nat.le_refl _) hS hi2 hd2⟩

/-- append in a fenced walk, as wpList_append -/
theorem wpListIn_append (w : World) {ops : Array Oper} {rest : List Oper} {o : Oper} {a : Act} {Q : Exit → Act → World → Prop} (hgd : o.guard = none) (s x : Operand) (t : TypeId)
    (ho : o.op = .call { callee := .builtin .append, args := #[s, x], argTypes := #[t, t] })
    (e : TypeId) (z : Value) (size bytes : Nat) (ht : P.underlying t = some (.slice e)) (hinfo : (P.info? e).map (fun i => (i.zero, i.size, i.bytes)) = some (some z, size, bytes))
    (hzs : z.cells.size = size) (hsz : 0 < size) (A : Option Addr) (k c : Nat) (xs : List Value) (hs : a.eval s = .slice A k c) (hown : Own w e size A k c xs)
    (B : Nat) (A2 : Option Addr) (m c2 : Nat) (news : List Value) (hx : a.eval x = .slice A2 m c2) (hr : Reads w B size A2 m news) (h1 : ∀ u ∈ news, u.oneCell' = true)
    (h63 : k + m ≤ maxLen) (hbytes : (k + m) * bytes ≤ 140737488355328)
    (h : ∀ A' c' w', Own w' e size A' (k + m) c' (xs ++ news) → Fr (At A) w w' → (A' = A ∨ A' = some ⟨w.heap.size, 0, none⟩ ∧ w.heap.size < w'.heap.size) →
      wpListIn F n P ops Q rest (a.put o.dst (.slice A' (k + m) c')) w') : wpListIn F n P ops Q (o :: rest) a w := by
  refine wpListIn_plain hgd fun K hK => ?_
  obtain ⟨A', c', w', hr, h2, h3, h4⟩ := run_append (P := P) w t o.type e z size bytes ht hinfo hzs hsz A k c xs hown B A2 m c2 news hr h1 h63 hbytes
  unfold Oper.wpIn
  refine ⟨by simp [Oper.about, ho, resolve, Target.leads, Sem.run_pure], ?_⟩
  rw [Oper.semAt_plain F _ _ (by rw [ho]; intro c hc; cases hc)]
  simp only [execOp, ho, resolve, invoke, builtin, Sem.run_bind, Sem.run_pure, Result.andThen_ok, List.map_toArray, List.map_cons, List.map_nil, hs, hx, hr]
  exact hK _ _ (h A' c' w' h2 h3 h4)
end Go.Proofs.Ythhlpbopbabojaa
