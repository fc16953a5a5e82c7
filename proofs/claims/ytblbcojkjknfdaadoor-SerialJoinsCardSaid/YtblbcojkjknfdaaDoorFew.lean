/-
  cribbleref18.Few, walked.
-/
import Derived.Test.YtblbcojkjknfdaaDoorTok
namespace Go.Proofs.YtblbcojkjknfdaaDoor
open Go.RowKit

structure SmallTok (t : Tok) : Prop where
  name : t.name.size ≤ 3000
  data : t.data.size ≤ 3000
  ats : ∀ a ∈ t.ats, a.1.size ≤ 3000 ∧ a.2.size ≤ 3000
  n : t.n ≤ 101
def FewT (l : List Tok) : Prop := l.length ≤ 100 ∧ ∀ t ∈ l, SmallTok t
def FewR (l : List Tok) (w : World) (e : Ending) (w' : World) : Prop := Fr Nil w w' ∧ ∃ b : Bool, e = .returned (.bool b) ∧ (b = true → FewT l)
def FewI (w : World) (l : List Tok) (n : Nat) (s3 s4 : Value) (wr : World) : Prop :=
  ∃ k N m : Nat, k ≤ n ∧ s4 = .int .i64 k ∧ s3 = .int .i64 N ∧ N ≤ 3000 ∧ (∀ t ∈ l.take k, SmallTok t) ∧ wr = w.drewN m
def FewJ (w : World) (t : Tok) (s3 s5 : Value) (wr : World) : Prop :=
  ∃ j N m : Nat, j ≤ t.n ∧ s5 = .int .i64 j ∧ s3 = .int .i64 N ∧ N ≤ 300000000000000 ∧ (0 < j → N ≤ 3000 ∧ j ≤ 101) ∧ t.name.size ≤ N ∧ t.data.size ≤ N ∧ (∀ a ∈ t.ats.take j, a.1.size ≤ N ∧ a.2.size ≤ N) ∧ wr = w.drewN m
theorem few_more {l : List Tok} {k : Nat} {t : Tok} (ht : l[k]? = some t) (h : ∀ t ∈ l.take k, SmallTok t) (hs : SmallTok t) : ∀ t ∈ l.take (k + 1), SmallTok t := by
  obtain ⟨hk, rfl⟩ := List.getElem?_eq_some_iff.1 ht
  rw [List.take_succ_eq_append_getElem hk]
  intro y hy
  rcases List.mem_append.1 hy with hy | hy
  · exact h y hy
  · rw [List.mem_singleton.1 hy]
    exact hs
theorem few_ats {l : List Atr} {k N M : Nat} {a : Atr} (ha : l[k]? = some a) (h : ∀ a ∈ l.take k, a.1.size ≤ N ∧ a.2.size ≤ N) (hN : N ≤ M) (h1 : a.1.size ≤ M) (h2 : a.2.size ≤ M) : ∀ a ∈ l.take (k + 1), a.1.size ≤ M ∧ a.2.size ≤ M := by
  obtain ⟨hk, rfl⟩ := List.getElem?_eq_some_iff.1 ha
  rw [List.take_succ_eq_append_getElem hk]
  intro y hy
  rcases List.mem_append.1 hy with hy | hy
  · have := h y hy
    omega
  · rw [List.mem_singleton.1 hy]
    exact ⟨h1, h2⟩

set_option maxRecDepth 100000 in
set_option maxHeartbeats 8000000 in
theorem few_any (w : World) (A : Option Addr) (n c : Nat) (l : List Tok) (h : Toks w w.heap.size A n l) (hn : n ≤ maxLen) :
    Calls Tryd.prog 5 #[.slice A n c] w (FewR l w) := by
  unfold maxLen at hn
  have HL := Lib.hid h.len
  go_enter Tryd.func5, Tryd.ntmps5
  go_wp2_with fail
  go_loopw [3, 4, 5] (fun s3 s4 _ wr => FewI w l n s3 s4 wr) (fun _ i _ _ => n - (intOf i).toNat)
  case atStart => exact ⟨0, 0, 0, Nat.zero_le _, rfl, rfl, by omega, fun t ht => by simp at ht, rfl⟩
  case round =>
    obtain ⟨k, N, m, hk, rfl, rfl, hN, hsm, rfl⟩ := hrel
    have HSM := Lib.hid hsm
    clear hsm
    by_cases hlt : k < n
    · obtain ⟨ad, t, rfl, hab, ht, hok, k0, k1, k2, k3, k4⟩ := tok_at h hlt
      have z1 := hok.small.1
      have z2 := hok.small.2.1
      have HT := Lib.hid ht
      have HOK := Lib.hid hok
      have hcap := hok.cap
      clear ht hok
      unfold maxLen at hcap
      obtain ⟨hc1, hc2⟩ := hcap
      go_wp2_with fail
      go_quiet (fail)
      go_wp2_with fail
      go_loopw [3, 5] (fun s3 s5 wr => FewJ w t s3 s5 wr) (fun _ i _ => t.n - (intOf i).toNat)
      case atStart => exact ⟨0, N + t.name.size + t.data.size, _, Nat.zero_le _, rfl, by go_num, by omega, fun h => absurd h (by omega), by omega, by omega, fun a ha => by simp at ha, World.drewN_drewN _ _ _⟩
      case round =>
        obtain ⟨j, M, m2, hj, rfl, rfl, hM, hM2, hz1, hz2, hats, rfl⟩ := hrel
        have HATS := Lib.hid hats
        clear hats
        by_cases hlj : j < t.n
        · obtain ⟨ad2, a, hA, hab2, ha, hsa, c0, c1⟩ := atr_at HOK.out hlj
          rw [hA] at k3
          have hM3 : M ≤ 3000 ∨ j = 0 := by
            by_cases h0 : j = 0
            · exact .inr h0
            · exact .inl (hM2 (by omega)).1
          have HA := Lib.hid ha
          have hs1 := hsa.1
          have hs2 := hsa.2
          clear ha hsa hM2
          go_wp2_with fail
          go_quiet (fail)
          by_cases hbig : 3000 < M + a.1.size + a.2.size
          · have hb1 : (3000 : Int) < (M : Int) + a.1.size + a.2.size := by omega
            go_wp2_with fail
            go_ret
            exact ⟨(Fr.rfl' _ _).drewN _, false, rfl, fun h => by cases h⟩
          · have hb1 : ¬ (3000 : Int) < (M : Int) + a.1.size + a.2.size := by omega
            by_cases hj100 : 100 < j
            · have hj1 : (100 : Int) < j := by omega
              go_wp2_with fail
              go_ret
              exact ⟨(Fr.rfl' _ _).drewN _, false, rfl, fun h => by cases h⟩
            · have hj1 : ¬ (100 : Int) < j := by omega
              have HN := Lib.hid (few_ats HA.out HATS.out (M := M + a.1.size + a.2.size) (by omega) (by omega) (by omega))
              go_wp2_with fail
              go_roundw
              case rel => exact ⟨j + 1, M + a.1.size + a.2.size, _, by omega, by go_num, by go_num, by omega, fun _ => ⟨by omega, by omega⟩, by omega, by omega, HN.out, rfl⟩
              case measure => simp [intOf]; omega
        · obtain rfl : j = t.n := by omega
          by_cases hbig : 3000 < M
          · have hb1 : (3000 : Int) < M := by omega
            go_wp2_with fail
            go_ret
            exact ⟨(Fr.rfl' _ _).drewN _, false, rfl, fun h => by cases h⟩
          · have hb1 : ¬ (3000 : Int) < M := by omega
            have hst : SmallTok t := ⟨by omega, by omega, fun a ha => by
              have := HATS.out a (by rw [List.take_of_length_le (by rw [HOK.out.len]; exact Nat.le_refl _)]; exact ha)
              omega, by
              by_cases h0 : t.n = 0
              · omega
              · have := (hM2 (by omega)).2
                omega⟩
            have HS := Lib.hid (few_more HT.out HSM.out hst)
            clear hst hM2
            go_wp2_with fail
            go_roundw
            case rel => exact ⟨k + 1, M, _, by omega, by go_num, rfl, by omega, HS.out, rfl⟩
            case measure => simp [intOf]; omega
    · obtain rfl : k = n := by omega
      have HS := Lib.hid (show ∀ t ∈ l, SmallTok t by
        have := HSM.out
        rwa [List.take_of_length_le (by rw [HL.out]; exact Nat.le_refl _)] at this)
      by_cases h100 : k ≤ 100
      · have h1 : (k : Int) ≤ 100 := by omega
        go_wp2_with fail
        go_ret
        exact ⟨(Fr.rfl' _ _).drewN _, true, rfl, fun _ => ⟨by rw [HL.out]; exact h100, HS.out⟩⟩
      · have h1 : ¬ (k : Int) ≤ 100 := by omega
        go_wp2_with fail
        go_ret
        exact ⟨(Fr.rfl' _ _).drewN _, false, rfl, fun h => by cases h⟩
end Go.Proofs.YtblbcojkjknfdaaDoor
