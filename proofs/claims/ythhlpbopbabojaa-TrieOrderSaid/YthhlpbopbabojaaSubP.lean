/-
  The words under a place of a trie, by their bytes: plain.
-/
import Derived.Test.YthhlpbopbabojaaInsP
import Derived.Test.YthhlpbopbabojaaNewP
namespace Go.Proofs.Ythhlpbopbabojaa

/-- the bytes that follow on a path, ascending -/
def kidsOf (P : List Pth) (p : Pth) : List UInt8 := ((List.range 256).map UInt8.ofNat).filter fun c => decide (p ++ [c] ∈ P)
theorem kids_mem (P : List Pth) (p : Pth) (c : UInt8) : c ∈ kidsOf P p ↔ p ++ [c] ∈ P := by
  unfold kidsOf
  rw [List.mem_filter, decide_eq_true_iff]
  refine ⟨fun h => h.2, fun h => ⟨List.mem_map.2 ⟨c.toNat, List.mem_range.2 c.toNat_lt, by simp⟩, h⟩⟩
theorem kids_asc (P : List Pth) (p : Pth) : (kidsOf P p).Pairwise fun a b => a.toNat < b.toNat := by
  refine List.Pairwise.filter _ ?_
  rw [List.pairwise_map]
  refine List.Pairwise.imp_of_mem (R := fun a b => a < b) (fun {a b} ha hb h => ?_) List.pairwise_lt_range
  have h1 := List.mem_range.1 ha
  have h2 := List.mem_range.1 hb
  rw [UInt8.toNat_ofNat_of_lt' (by exact h1), UInt8.toNat_ofNat_of_lt' (by exact h2)]
  exact h
/-- two rows of bytes that ascend, of the same bytes, are one -/
theorem kids_unique {a b : List UInt8} (ha : a.Pairwise fun x y => x.toNat < y.toNat) (hb : b.Pairwise fun x y => x.toNat < y.toNat) (h : ∀ c, c ∈ a ↔ c ∈ b) : a = b := by
  have na : a.Nodup := ha.imp fun {x y} h e => by rw [e] at h; omega
  have nb : b.Nodup := hb.imp fun {x y} h e => by rw [e] at h; omega
  exact ((List.perm_ext_iff_of_nodup na nb).2 h).eq_of_pairwise (fun x y _ _ h1 h2 => absurd h1 (by omega)) ha hb
/-- the words under a path; K: how many bytes may follow -/
def subW (Lb P : List Pth) : Nat → Pth → List Pth
  | 0, p => if p ∈ Lb then [p] else []
  | K + 1, p => (if p ∈ Lb then [p] else []) ++ (kidsOf P p).flatMap fun c => subW Lb P K (p ++ [c])
theorem lt_append (p : Pth) {x y : Pth} (h : x < y) : p ++ x < p ++ y := by
  induction p with
  | nil => exact h
  | cons a p ih => exact List.cons_lt_cons_iff.2 (.inr ⟨rfl, ih⟩)
theorem lt_longer (p : Pth) (c : UInt8) (r : Pth) : p < p ++ c :: r := by
  have := lt_append p (x := []) (y := c :: r) (List.nil_lt_cons _ _)
  rwa [List.append_nil] at this
section
variable {Lb P : List Pth} {ns : List (Nat × Int)} (h : Full Lb P ns)
include h
theorem subW_mem (K : Nat) : ∀ p : Pth, (∀ q ∈ Lb, q.length ≤ p.length + K) → ∀ q, q ∈ subW Lb P K p ↔ q ∈ Lb ∧ p <+: q := by
  induction K with
  | zero =>
    intro p hlen q
    unfold subW
    constructor
    · intro hq
      split at hq
      · rw [List.mem_singleton.1 hq]
        exact ⟨by assumption, List.prefix_refl _⟩
      · cases hq
    · rintro ⟨hq, hpq⟩
      have := hlen q hq
      have hpe : p = q := hpq.eq_of_length (by have := hpq.length_le; omega)
      subst hpe
      rw [if_pos hq]
      simp
  | succ K ih =>
    intro p hlen q
    have hl2 : ∀ c, ∀ q ∈ Lb, q.length ≤ (p ++ [c]).length + K := fun c q hq => by have := hlen q hq; rw [List.length_append, List.length_singleton]; omega
    unfold subW
    rw [List.mem_append, List.mem_flatMap]
    constructor
    · rintro (hq | ⟨c, hc, hq⟩)
      · split at hq
        · rw [List.mem_singleton.1 hq]
          exact ⟨by assumption, List.prefix_refl _⟩
        · cases hq
      · obtain ⟨h1, h2⟩ := (ih _ (hl2 c) q).1 hq
        exact ⟨h1, (List.prefix_append p [c]).trans h2⟩
    · rintro ⟨hq, r, rfl⟩
      cases r with
      | nil =>
        rw [List.append_nil] at hq ⊢
        rw [if_pos hq]
        exact .inl (by simp)
      | cons c r =>
        refine .inr ⟨c, (kids_mem P p c).2 ((h.mem _).2 (.inr ⟨_, hq, ?_⟩)), (ih _ (hl2 c) _).2 ⟨hq, ?_⟩⟩
        all_goals exact ⟨r, by rw [List.append_assoc]; rfl⟩
theorem subW_asc (K : Nat) : ∀ p : Pth, (∀ q ∈ Lb, q.length ≤ p.length + K) → (subW Lb P K p).Pairwise fun a b => a < b := by
  induction K with
  | zero =>
    intro p _
    unfold subW
    split <;> simp
  | succ K ih =>
    intro p hlen
    have hl2 : ∀ c, ∀ q ∈ Lb, q.length ≤ (p ++ [c]).length + K := fun c q hq => by have := hlen q hq; rw [List.length_append, List.length_singleton]; omega
    have hpre : ∀ c q, q ∈ subW Lb P K (p ++ [c]) → ∃ r, q = p ++ c :: r := fun c q hq => by
      obtain ⟨_, r, rfl⟩ := (subW_mem h K _ (hl2 c) q).1 hq
      exact ⟨r, by rw [List.append_assoc]; rfl⟩
    unfold subW
    rw [List.pairwise_append]
    refine ⟨by split <;> simp, ?_, ?_⟩
    · rw [List.pairwise_flatMap]
      refine ⟨fun c _ => ih _ (hl2 c), (kids_asc P p).imp fun {a b} hab x hx y hy => ?_⟩
      obtain ⟨r, rfl⟩ := hpre a x hx
      obtain ⟨t, rfl⟩ := hpre b y hy
      exact lt_append p (List.cons_lt_cons_iff.2 (.inl (UInt8.lt_iff_toNat_lt.2 hab)))
    · intro x hx y hy
      split at hx
      · rw [List.mem_singleton.1 hx]
        obtain ⟨c, _, hy⟩ := List.mem_flatMap.1 hy
        obtain ⟨r, rfl⟩ := hpre c y hy
        exact lt_longer p c r
      · cases hx
/-- the words under the root are all, by their bytes -/
theorem subW_all (hn : Lb.Nodup) (K : Nat) (hK : ∀ q ∈ Lb, q.length ≤ K) : subW Lb P K [] = insAll Lb := by
  have hlen : ∀ q ∈ Lb, q.length ≤ ([] : Pth).length + K := fun q hq => by rw [List.length_nil, Nat.zero_add]; exact hK q hq
  have ha := subW_asc h K [] hlen
  have hm := subW_mem h K [] hlen
  have hnd : (subW Lb P K []).Nodup := ha.imp fun {a b} hab e => by rw [e] at hab; exact List.lt_irrefl _ hab
  have hp : (subW Lb P K []).Perm Lb := (List.perm_ext_iff_of_nodup hnd hn).2 fun q => by rw [hm q]; simp
  exact asc_unique (hp.trans (insAll_spec Lb).1.symm) (ha.imp fun {a b} hab hba => List.lt_irrefl _ (List.lt_trans hab hba)) (insAll_spec Lb).2
end
theorem subW_len_le (Lb P : List Pth) (K : Nat) (p : Pth) (l : List UInt8) (k : Nat) : ((l.take k).flatMap fun c => subW Lb P K (p ++ [c])).length ≤ (l.flatMap fun c => subW Lb P K (p ++ [c])).length := by
  conv => rhs; rw [← List.take_append_drop k l]
  rw [List.flatMap_append, List.length_append]
  omega
end Go.Proofs.Ythhlpbopbabojaa
