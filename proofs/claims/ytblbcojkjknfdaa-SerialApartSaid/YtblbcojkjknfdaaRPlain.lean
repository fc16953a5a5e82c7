/-
  cribbleref22.Plain, walked.
-/
import Derived.Test.YtblbcojkjknfdaaPlain
namespace Go.Proofs.Ytblbcojkjknfdaa
open Go.RowKit

section
variable (w : World) (nm data : ByteArray) (A : Option Addr) (n c : Nat) (self : Bool)
set_option maxRecDepth 100000 in
set_option maxHeartbeats 4000000 in
theorem rplain1 : Calls Try.prog 8 #[.agg #[.int .i64 1, .string nm, .string data, .slice A n c, .bool self]] w fun e w' => e = .returned (.bool (!noB data && noB nm && decide (n = 0) && !self)) ∧ Fr Nil w w' := by
  rcases no_cases data with ⟨d, d1, d2, d3⟩ | ⟨d, d1, d2, d3⟩ <;> rcases no_cases nm with ⟨e, e1, e2, e3⟩ | ⟨e, e1, e2, e3⟩ <;> rcases n_cases n with ⟨f, f1, f2⟩ | ⟨f, f1, f2⟩ <;> cases self
  all_goals
    rw [d, e, f]
    clear d e f
    go_enter Try.func8, Try.ntmps8
    go_wp2
    go_ret
    exact ⟨rfl, (Fr.rfl' _ w).alloc _⟩
set_option maxRecDepth 100000 in
set_option maxHeartbeats 4000000 in
theorem rplain3 : Calls Try.prog 8 #[.agg #[.int .i64 3, .string nm, .string data, .slice A n c, .bool self]] w fun e w' => e = .returned (.bool (wordB (bs nm) && noB data && decide (n = 0) && !self)) ∧ Fr Nil w w' := by
  have HW := Lib.hid (fun w => rword_any w nm)
  generalize wordB (bs nm) = b at HW ⊢
  rcases no_cases data with ⟨d, d1, d2, d3⟩ | ⟨d, d1, d2, d3⟩ <;> rcases n_cases n with ⟨f, f1, f2⟩ | ⟨f, f1, f2⟩ <;> cases self <;> cases b
  all_goals
    rw [d, f]
    clear d f
    go_enter Try.func8, Try.ntmps8
    go_wp2_with fail
    refine (HW.out _).mono ?_
    rintro e w1 ⟨rfl, rfl⟩
    go_wp2_with fail
    go_ret
    exact ⟨rfl, (Fr.rfl' _ w).alloc _⟩
end
set_option maxHeartbeats 1000000 in
theorem rplain0 (w : World) (kind : Int) (nm data : ByteArray) (A : Option Addr) (n c : Nat) (self : Bool) (h1 : kind ≠ 1) (h2 : kind ≠ 2) (h3 : kind ≠ 3) :
    Calls Try.prog 8 #[.agg #[.int .i64 kind, .string nm, .string data, .slice A n c, .bool self]] w fun e w' => e = .returned (.bool false) ∧ Fr Nil w w' := by
  have g1 : (kind == 1) = false := by simpa using h1
  have g2 : (kind == 2) = false := by simpa using h2
  have g3 : (kind == 3) = false := by simpa using h3
  go_enter Try.func8, Try.ntmps8
  go_wp2_with fail
  go_ret
  exact ⟨rfl, (Fr.rfl' _ w).alloc _⟩

def RPlI (W : World) (l : List Atr) (n : Nat) (s4 : Value) (wr : World) : Prop :=
  ∃ k m : Nat, k ≤ n ∧ s4 = .int .i64 k ∧ (l.take k).any oddA = false ∧ (namesA (l.take k)).Nodup ∧ wr = W.drewN m
def RPlJ (W : World) (l : List Atr) (k : Nat) (x : Bys) (s6 : Value) (wr : World) : Prop :=
  ∃ j m : Nat, j ≤ k ∧ s6 = .int .i64 j ∧ x ∉ namesA (l.take j) ∧ wr = W.drewN m
theorem dup_no {l : List Atr} {j k : Nat} {a b : Atr} (hj : l[j]? = some a) (hk : l[k]? = some b) (hjk : j < k) (h : a.1 = b.1) : fineB l = false := by
  have : ¬ (namesA l).Nodup := by
    intro hn
    have h1 : (namesA l)[j]? = some (bs a.1) := by rw [namesA, List.getElem?_map, hj]; rfl
    have h2 : (namesA l)[k]? = some (bs b.1) := by rw [namesA, List.getElem?_map, hk]; rfl
    rw [← h] at h2
    obtain ⟨i1, e1⟩ := List.getElem?_eq_some_iff.1 h1
    obtain ⟨i2, e2⟩ := List.getElem?_eq_some_iff.1 h2
    exact List.pairwise_iff_getElem.1 hn j k i1 i2 hjk (e1.trans e2.symm)
  unfold fineB
  rw [decide_eq_false this]
  rfl
theorem odd_no {l : List Atr} {k : Nat} {a : Atr} (hk : l[k]? = some a) (h : oddA a = true) : fineB l = false := by
  unfold fineB
  rw [any_yes hk h]
  simp

set_option maxRecDepth 100000 in
set_option maxHeartbeats 8000000 in
theorem rplain2 (w : World) (B : Nat) (nm data : ByteArray) (A : Option Addr) (n c : Nat) (ats : List Atr) (self : Bool) (hok : TokOk w B ⟨2, nm, data, A, n, c, ats, self⟩) (hB : B ≤ w.heap.size) (hn : n ≤ 1000000) :
    Calls Try.prog 8 #[.agg #[.int .i64 2, .string nm, .string data, .slice A n c, .bool self]] w fun e w' => e = .returned (.bool (wordB (bs nm) && decide (rawZ nm = 0) && noB data && !self && fineB ats)) ∧ Fr Nil w w' := by
  have HLEN := Lib.hid (show ats.length = n from hok.len)
  have HFALSE := Lib.hid (fun (h : fineB ats = false) => show (wordB (bs nm) && decide (rawZ nm = 0) && noB data && !self && fineB ats) = false by rw [h]; simp)
  have HTRUE := Lib.hid (fun (h : fineB ats = true) => show (wordB (bs nm) && decide (rawZ nm = 0) && noB data && !self && fineB ats) = (wordB (bs nm) && decide (rawZ nm = 0) && noB data && !self) by rw [h]; simp)
  generalize (wordB (bs nm) && decide (rawZ nm = 0) && noB data && !self && fineB ats) = r at HFALSE HTRUE ⊢
  have HW := Lib.hid (fun w => rword_any w nm)
  have HR := Lib.hid (fun w => rraw_any nm w)
  generalize wordB (bs nm) = b at HW HTRUE
  generalize rawZ nm = z at HR HTRUE
  have HOK := Lib.hid hok
  clear hok
  go_enter Try.func8, Try.ntmps8
  go_wp2_with fail
  have hW0 : Fr Nil w (w.alloc (.cells #[.int .i64 2, .string nm, .string data, .slice A n c, .bool self] 28)) := (Fr.rfl' _ w).alloc _
  have b1 : (w.alloc (.cells #[.int .i64 2, .string nm, .string data, .slice A n c, .bool self] 28)).cell? ⟨w.heap.size, 1, none⟩ = some (.string nm) := by simp
  have b2 : (w.alloc (.cells #[.int .i64 2, .string nm, .string data, .slice A n c, .bool self] 28)).cell? ⟨w.heap.size, 2, none⟩ = some (.string data) := by simp
  have b3 : (w.alloc (.cells #[.int .i64 2, .string nm, .string data, .slice A n c, .bool self] 28)).cell? ⟨w.heap.size, 3, none⟩ = some (.slice A n c) := by simp
  have b4 : (w.alloc (.cells #[.int .i64 2, .string nm, .string data, .slice A n c, .bool self] 28)).cell? ⟨w.heap.size, 4, none⟩ = some (.bool self) := by simp
  generalize w.alloc (.cells #[.int .i64 2, .string nm, .string data, .slice A n c, .bool self] 28) = W at *
  go_loopw [4, 5, 6] (fun s4 _ _ wr => RPlI W ats n s4 wr) (fun i _ _ _ => n - (intOf i).toNat)
  case atStart => exact ⟨0, 0, Nat.zero_le _, rfl, rfl, List.nodup_nil, rfl⟩
  case round =>
    obtain ⟨k, m, hk, rfl, hodd, hnd, rfl⟩ := hrel
    have HODD := Lib.hid hodd
    have HND := Lib.hid hnd
    clear hodd hnd
    by_cases hlt : k < n
    · obtain ⟨ad, a, hA, hab, ha, hsa, c0, c1⟩ := atr_at ((HOK.out.fr hW0 hB fun _ x => x.elim)) (k := k) hlt
      obtain rfl : A = some ad := hA
      have hw1 := fun w => rword_any w a.1
      have hn1 := fun w => nul_any a.2 w (by have := hsa.2; omega)
      have hoa : oddA a = (!wordB (bs a.1) || nulB (bs a.2)) := rfl
      have HA := Lib.hid ha
      generalize wordB (bs a.1) = q1 at hw1 hoa
      generalize nulB (bs a.2) = q2 at hn1 hoa
      have HOA := Lib.hid hoa
      have HW1 := Lib.hid hw1
      have HN1 := Lib.hid hn1
      clear ha hsa hoa hw1 hn1
      cases q1 with
      | false =>
        go_wp2_with fail
        refine (HW1.out _).mono ?_
        rintro e w1 ⟨rfl, rfl⟩
        go_wp2_with fail
        go_ret
        exact ⟨ret_bool (HFALSE.out (odd_no HA.out HOA.out)).symm, hW0.drewN m⟩
      | true =>
        cases q2 with
        | true =>
          go_wp2_with fail
          refine (HW1.out _).mono ?_
          rintro e w1 ⟨rfl, rfl⟩
          go_wp2_with fail
          refine (HN1.out _).mono ?_
          rintro e w1 ⟨rfl, rfl⟩
          go_wp2_with fail
          go_ret
          exact ⟨ret_bool (HFALSE.out (odd_no HA.out HOA.out)).symm, hW0.drewN m⟩
        | false =>
          go_wp2_with fail
          refine (HW1.out _).mono ?_
          rintro e w1 ⟨rfl, rfl⟩
          go_wp2_with fail
          refine (HN1.out _).mono ?_
          rintro e w1 ⟨rfl, rfl⟩
          go_wp2_with fail
          go_loopw [6] (fun s6 wr => RPlJ W ats k (bs a.1) s6 wr) (fun i _ => k - (intOf i).toNat)
          case atStart => exact ⟨0, m, Nat.zero_le _, rfl, by simp [namesA], rfl⟩
          case round =>
            obtain ⟨j, m2, hj, rfl, hno, rfl⟩ := hrel
            have HNO := Lib.hid hno
            clear hno
            by_cases hjk : j < k
            · obtain ⟨ad2, a2, hA2, hab2, ha2, hsa2, d0, d1⟩ := atr_at ((HOK.out.fr hW0 hB fun _ x => x.elim)) (k := j) (by show j < n; omega)
              obtain rfl : ad = ad2 := by injection hA2
              have HA2 := Lib.hid ha2
              clear ha2 hsa2
              by_cases he : a2.1 = a.1
              · have hq : (a2.1.toList == a.1.toList) = true := by rw [he]; exact str_beq_self _
                have HR2 := Lib.hid (HFALSE.out (dup_no HA2.out HA.out hjk he))
                clear he
                go_wp2_with fail
                go_quiet (fail)
                go_wp2_with fail
                go_ret
                exact ⟨ret_bool HR2.out.symm, (hW0.drewN _).drewN _⟩
              · have hq := str_beq_ne he
                have HN2 := Lib.hid (show bs a.1 ∉ namesA (ats.take (j + 1)) by
                  rw [namesA_take HA2.out]
                  intro h
                  rcases List.mem_append.1 h with h | h
                  · exact HNO.out h
                  · exact he (bs_inj (List.mem_singleton.1 h).symm))
                clear he
                go_wp2_with fail
                go_quiet (fail)
                go_wp2_with fail
                go_roundw
                case rel => exact ⟨j + 1, _, by omega, by go_num, HN2.out, rfl⟩
                case measure => simp [intOf]; omega
            · obtain rfl : j = k := by omega
              have HN3 := Lib.hid (show (namesA (ats.take (j + 1))).Nodup by rw [namesA_take HA.out]; exact nodup_snoc.2 ⟨HND.out, HNO.out⟩)
              have HO3 := Lib.hid (show (ats.take (j + 1)).any oddA = false by rw [any_take HA.out, HODD.out, HOA.out]; rfl)
              go_wp2_with fail
              go_roundw
              case rel => exact ⟨j + 1, _, by omega, by go_num, HO3.out, HN3.out, rfl⟩
              case measure => simp [intOf]; omega
    · obtain rfl : k = n := by omega
      have hta : ats.take k = ats := List.take_of_length_le (by rw [HLEN.out]; exact Nat.le_refl _)
      have hf : fineB ats = true := by
        have h1 := HODD.out
        have h2 := HND.out
        rw [hta] at h1 h2
        unfold fineB
        rw [decide_eq_true h2, h1]
        rfl
      have HT := Lib.hid (HTRUE.out hf)
      clear hta hf
      rcases z_cases z with ⟨d, z1⟩ | ⟨d, z1⟩ <;> rcases no_cases data with ⟨e, e1, e2, e3⟩ | ⟨e, e1, e2, e3⟩ <;> cases self <;> cases b
      all_goals
        have HD := Lib.hid d
        have HE := Lib.hid e
        clear d e
        go_wp2_with fail
        refine (HW.out _).mono ?_
        rintro e w1 ⟨rfl, rfl⟩
        go_wp2_with (refine (HR.out _).mono ?_; rintro e w1 ⟨rfl, rfl⟩)
        go_ret
        exact ⟨ret_bool (by rw [HT.out, HD.out, HE.out]; rfl), hW0.drewN m⟩
theorem rplain_any (w : World) (B : Nat) (t : Tok) (hok : TokOk w B t) (hB : B ≤ w.heap.size) (hn : t.n ≤ 1000000) :
    Calls Try.prog 8 #[.agg (tokCells t).toArray] w fun e w' => e = .returned (.bool (plainB t)) ∧ Fr Nil w w' := by
  obtain ⟨kind, nm, data, A, n, c, ats, self⟩ := t
  show Calls Try.prog 8 #[.agg #[.int .i64 kind, .string nm, .string data, .slice A n c, .bool self]] w _
  unfold plainB
  by_cases h1 : kind = 1
  · subst h1
    rw [if_pos rfl]
    exact rplain1 w nm data A n c self
  · rw [if_neg h1]
    by_cases h2 : kind = 2
    · subst h2
      rw [if_pos rfl]
      exact rplain2 w B nm data A n c ats self hok hB hn
    · rw [if_neg h2]
      by_cases h3 : kind = 3
      · subst h3
        rw [if_pos rfl]
        exact rplain3 w nm data A n c self
      · rw [if_neg h3]
        exact rplain0 w kind nm data A n c self h1 h2 h3
end Go.Proofs.Ytblbcojkjknfdaa
