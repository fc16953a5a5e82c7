/-
  NestSums, walked: for every depth and every list of steps the law returns true and writes nothing that was there.
-/
import Derived.Test.YtdanhjfdgpbfiaaTurned
import Derived.Test.YtdanhjfdgpbfiaaArgs
namespace Go.Proofs.Ytdanhjfdgpbfiaa
open Go.RowKit Go.ChangeShapes Go.WideShapes

def encStep (s : Int × ByteArray) : List Value := [.int .i64 s.1, .string s.2]
theorem reads_step {w : World} {B n k : Nat} {A : Option Addr} {L : List (Int × ByteArray)} (h : Reads w B 2 A n (L.flatMap encStep)) (hk : k < n) :
    ∃ ad d s, A = some ad ∧ ad.block < B ∧ L[k]? = some (d, s) ∧ w.cell? (ad.add (k * 2)) = some (.int .i64 d) ∧ w.cell? ⟨(ad.add (k * 2)).block, (ad.add (k * 2)).off + 1, none⟩ = some (.string s) := by
  obtain ⟨ad, rfl, hb, hc⟩ := h.2 (by omega)
  have hl := h.1
  rw [flatMap_len encStep 2 (fun _ => rfl)] at hl
  obtain ⟨⟨d, s⟩, hs⟩ : ∃ x, L[k]? = some x := ⟨L[k]'(by omega), List.getElem?_eq_getElem _⟩
  refine ⟨ad, d, s, rfl, hb, hs, hc _ _ ?_, ?_⟩
  · rw [flatMap_get encStep 2 (by decide) (fun _ => rfl), show k * 2 / 2 = k by omega, show k * 2 % 2 = 0 by omega, hs]
    rfl
  · show w.cell? ((ad.add (k * 2)).add 1) = _
    rw [add_of_add]
    refine hc _ _ ?_
    rw [flatMap_get encStep 2 (by decide) (fun _ => rfl), show (k * 2 + 1) / 2 = k by omega, show (k * 2 + 1) % 2 = 1 by omega, hs]
    rfl
theorem open_steps {H : Type} {enc : TypeId × Value → H} {W : World} {sp : Nat → Bool} {held : Bool} {a : Option Addr} {len cap : Nat} {d : DataW H} {p : List MemPlace}
    (h : DataW.Trod enc Try.prog W 0 sp held 32 (.slice a len cap) d p) :
    ∃ L : List (Int × ByteArray), (∀ s ∈ L, True) ∧ Reads W W.heap.size 2 a len (L.flatMap encStep) ∧ len ≤ maxLen := by
  obtain ⟨L, _, hg, hr, h1, h2⟩ := open_list (β := Int × ByteArray) 2 (by decide) encStep (fun _ => rfl) (fun _ => True) Try.underlying32 (by kernel_rfl)
    (fun n cs x hx => by
      obtain ⟨y0, y1, m, _, hl, t0, t1⟩ := trod_struct2 Try.underlying34 hx
      have hc : Try.prog.cellsOf 34 = 2 := by kernel_rfl
      rw [hc] at hl
      match cs, hl with
      | [u0, u1], _ =>
        obtain ⟨z, e0, _, _⟩ := DataW.trod_int Try.underlying3 t0
        obtain ⟨s, e1, _, _⟩ := DataW.trod_string Try.underlying9 t1
        have c0 : Try.prog.cellsOf 3 = 1 := by kernel_rfl
        have c1 : Try.prog.cellsOf 9 = 1 := by kernel_rfl
        simp [c0, c1] at e0 e1
        subst e0 e1
        exact ⟨(z, s), rfl, trivial⟩) h
  exact ⟨L, hg, hr, Nat.le_trans h1 h2⟩

set_option maxHeartbeats 1600000 in
set_option maxRecDepth 100000 in
theorem sums_any (w : World) (d : Int) (A0 : Option Addr) (n c0 : Nat) (L : List (Int × ByteArray)) (hr : Reads w w.heap.size 2 A0 n (L.flatMap encStep)) :
    Calls Try.prog 4 #[.int .i64 d, .slice A0 n c0] w fun e w' => e = .returned (.bool true) ∧ Fr Nil w w' := by
  by_cases hd : d < 1 ∨ 256 < d
  · go_enter Try.func4, Try.ntmps4
    go_wp2_with fail
    refine (awake_any w).mono ?_
    rintro e w1 ⟨rfl, f1⟩
    go_wp2_with fail
    refine (new_no d _ hd).mono ?_
    rintro e w2 ⟨rfl, rfl⟩
    go_wp2_with fail
    go_ret
    exact ⟨rfl, f1⟩
  · go_enter Try.func4, Try.ntmps4
    go_wp2_with fail
    refine (awake_any w).mono ?_
    rintro e w1 ⟨rfl, f1⟩
    go_wp2_with fail
    refine (new_ok d _ (by omega) (by omega)).mono ?_
    rintro e w2 ⟨rfl, rfl⟩
    go_wp2_with fail
    go_loopw [8, 9] (fun m i wr => ∃ (k : Nat) (K : List ByteArray), m = .int .i64 K.length ∧ i = .int .i64 k ∧ k ≤ n ∧ k ≤ 300 ∧ K.length ≤ d ∧ Ours w wr w1.heap.size d K) (fun _ i _ => (n - intOf i).toNat)
    case atStart => exact ⟨0, [], rfl, rfl, Nat.zero_le _, by decide, by simp; omega, ours_new f1⟩
    case round =>
      obtain ⟨k, K, rfl, rfl, hk, hk3, hK, ho⟩ := hrel
      have hd256 : d ≤ 256 := by omega
      by_cases hlt : k < n ∧ k < 300
      · obtain ⟨hlt1, hlt2⟩ := hlt
        obtain ⟨ad, dd, s, rfl, hab, hs, hc1, hc2⟩ := reads_step (hr.below (ours_fr ho).below) hlt1
        clear hs
        by_cases h0 : dd = 0
        · subst h0
          by_cases hf : (K.length : Int) < d
          · go_wp2_with fail
            refine (ours_open (x := s) ho hf (by omega)).mono ?_
            rintro e w3 ⟨_, rfl, rfl, ho3⟩
            have hfin : ¬ d < (K.length : Int) + 1 := by omega
            have hne : ((K.length : Int) + 1 < 0) = False := by simp; omega
            go_wp2_with (go_at_call 11; refine (ours_depth ho3).mono ?_; rintro e w' ⟨rfl, rfl⟩; simp only [List.length_append, List.length_cons, List.length_nil, Nat.zero_add])
            go_roundw
            case rel => exact ⟨k + 1, K ++ [s], by simp, by go_num, by omega, by omega, by simp; omega, ho3⟩
            case measure => simp [intOf]; omega
          · go_wp2_with fail
            refine (ours_full (x := s) ho (by omega)).mono ?_
            rintro e w3 ⟨_, rfl, rfl, ho3⟩
            have hfin : ¬ d < (K.length : Int) := by omega
            go_wp2_with (go_at_call 11; refine (ours_depth ho3).mono ?_; rintro e w' ⟨rfl, rfl⟩)
            go_roundw
            case rel => exact ⟨k + 1, K, by simp, by go_num, by omega, by omega, by omega, ho3⟩
            case measure => simp [intOf]; omega
        · have e0 : (dd == 0) = false := by simpa using h0
          by_cases h1 : dd = 1
          · subst h1
            go_wp2_with fail
            refine (ours_close (x := s) ho (by omega)).mono ?_
            rintro e w4 ⟨v, rfl, ⟨hx, rfl, ho3⟩ | ⟨j, hj, A', c', rfl, hown, ho3⟩⟩
            · have hfin : ¬ d < (K.length : Int) := by omega
              go_wp2_with (go_at_call 11; refine (ours_depth ho3).mono ?_; rintro e w' ⟨rfl, rfl⟩)
              go_roundw
              case rel => exact ⟨k + 1, K, by simp, by go_num, by omega, by omega, by omega, ho3⟩
              case measure => simp [intOf]; omega
            · have hjl := (List.getElem?_eq_some_iff.1 hj.1).1
              have hw : (K.length : Int) - ((K.length - j : Nat) : Int) = j := by omega
              have hfin : ¬ d < (j : Int) := by omega
              have ht : (K.take j).length = j := by rw [List.length_take]; omega
              have HT := Lib.hid ht
              have HJ := Lib.hid hj
              clear ht hj
              go_wp2_with (go_at_call 11; refine (ours_depth ho3).mono ?_; rintro e w' ⟨rfl, rfl⟩; rw [HT.out])
              go_roundw
              case rel => exact ⟨k + 1, K.take j, by rw [HT.out], by go_num, by omega, by omega, by rw [HT.out]; omega, ho3⟩
              case measure => simp [intOf]; omega
          · have e1 : (dd == 1) = false := by simpa using h1
            go_wp2_with fail
            refine (ours_all ho (by omega)).mono ?_
            rintro e w4 ⟨v, rfl, A', c', rfl, hown, ho3⟩
            have hfin : ¬ d < (0 : Int) := by omega
            go_wp2_with (go_at_call 11; refine (ours_depth ho3).mono ?_; rintro e w' ⟨rfl, rfl⟩; simp only [List.length_nil])
            go_roundw
            case rel => exact ⟨k + 1, [], by simp, by go_num, by omega, by omega, by simp; omega, ho3⟩
            case measure => simp [intOf]; omega
      · by_cases hlt1 : k < n
        · have hb : decide ((k : Int) < 300) = false := by simp; omega
          go_wp2_with fail
          refine (ours_all ho (by omega)).mono ?_
          rintro e w4 ⟨v, rfl, A', c', rfl, hown, ho3⟩
          go_wp2_with (go_at_call 11; refine (ours_depth ho3).mono ?_; rintro e w' ⟨rfl, rfl⟩; simp only [List.length_nil])
          go_ret
          exact ⟨rfl, ours_fr ho3⟩
        · go_wp2_with fail
          refine (ours_all ho (by omega)).mono ?_
          rintro e w4 ⟨v, rfl, A', c', rfl, hown, ho3⟩
          go_wp2_with (go_at_call 11; refine (ours_depth ho3).mono ?_; rintro e w' ⟨rfl, rfl⟩; simp only [List.length_nil])
          go_ret
          exact ⟨rfl, ours_fr ho3⟩
end Go.Proofs.Ytdanhjfdgpbfiaa
