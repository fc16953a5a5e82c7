/-
  slices.Sort at bytes, slices.Sorted over maps.Keys, walked.
-/
import Derived.Test.YthhlpbopbabojaaSrtR
import Derived.Test.YthhlpbopbabojaaKeys
namespace Go.Proofs.Ythhlpbopbabojaa
open Go.RowKit Go.Sort

/-! ### nothing to sort -/
theorem insertion_nil (w : World) : Calls Try.prog 38 #[.slice none 0 0, .int .i64 0, .int .i64 0] w fun e w' => e = .returned (.tuple #[]) ∧ w = w' := by
  go_enter Try.func38, Try.ntmps38
  go_wp2
  go_loopw [6, 7] (fun vi _ wr => vi = .int .i64 1 ∧ w = wr) (fun _ _ _ => 0)
  case atStart => exact ⟨rfl, rfl⟩
  case round =>
    obtain ⟨rfl, rfl⟩ := hrel
    go_wp2
    go_end0
    exact ⟨rfl, rfl⟩
theorem pdq_nil (w : World) (l : Nat) : Calls Try.prog 36 #[.slice none 0 0, .int .i64 0, .int .i64 0, .int .i64 l] w fun e w' => e = .returned (.tuple #[]) ∧ w = w' := by
  go_enter Try.func36, Try.ntmps36
  go_wp2
  go_loopw [1, 2, 3, 8, 9, 10, 11, 12, 13, 14, 15, 16, 17, 18] (fun va vb _ _ _ _ _ _ _ _ _ _ _ _ wr => va = .int .i64 0 ∧ vb = .int .i64 0 ∧ w = wr) (fun _ _ _ _ _ _ _ _ _ _ _ _ _ _ _ => 0)
  case atStart => exact ⟨rfl, rfl, rfl⟩
  case round =>
    obtain ⟨rfl, rfl, rfl⟩ := hrel
    go_wp2_with fail
    refine (insertion_nil _).mono ?_
    rintro e w1 ⟨rfl, rfl⟩
    go_wp2_with fail
    (try simp only [Exit.inBlock, Exit.then])
    refine bodyPost_ret (results_none rfl _ _ _) rfl ?_
    exact ⟨rfl, rfl⟩

/-! ### a row of bytes as numbers, and back -/
def numsOf (ss : List UInt8) : Array Int := (ss.map fun c => (c.toNat : Int)).toArray
def backOf (R : Array Int) : List UInt8 := R.toList.map fun z => UInt8.ofNat z.toNat
theorem nums_cells (ss : List UInt8) : ((numsOf ss).map eb).toList = cellsOf ss := by simp [numsOf, cellsOf]
theorem back_nums (ss : List UInt8) : (ss.map fun c => (c.toNat : Int)).map (fun z => UInt8.ofNat z.toNat) = ss := by
  rw [List.map_map]
  conv => rhs; rw [← List.map_id ss]
  refine List.map_congr_left fun c _ => ?_
  simp
theorem rowB_of {w : World} {A : Option Addr} {c g : Nat} {ss : List UInt8} (h : Own w 5 1 A ss.length c (cellsOf ss)) (hA : A = some ⟨g, 0, none⟩) : ∃ sp, RowB w g 0 #[] sp (numsOf ss) ∧ sp.size + ss.length = c := by
  subst hA
  rcases h.2 with ⟨hv, _⟩ | ⟨g', cap, cur, hv, _, hh, hn, hcap, hsz, ht⟩
  · cases hv
  · injection hv with h1 h2 h3
    injection h1 with h1
    injection h1 with h1
    subst h1 h3
    refine ⟨(cur.toList.drop ss.length).toArray, ⟨rfl, ?_⟩, ?_⟩
    · show w.heap[g]? = _
      rw [hh]
      congr 2
      apply Array.toList_inj.1
      rw [Nat.mul_one] at ht
      simp only [Array.toList_append, nums_cells]
      rw [← ht]
      simp
    · simp at hsz ⊢
      omega
theorem own_of_rowB {w : World} {g c : Nat} {sp : Array Value} {R : Array Int} {ss : List UInt8} (h : RowB w g 0 #[] sp R) (hss : R.toList = ss.map fun c => (c.toNat : Int)) (hc : sp.size + ss.length = c) (hm : c ≤ maxLen) : Own w 5 1 (some ⟨g, 0, none⟩) ss.length c (cellsOf ss) := by
  have hR : R = numsOf ss := by
    apply Array.toList_inj.1
    rw [hss]
    simp [numsOf]
  subst hR
  refine ⟨by rw [cellsOf_len, Nat.mul_one], .inr ⟨g, c, _, rfl, Nat.zero_le _, h.2, by omega, hm, ?_, ?_⟩⟩
  · simp [numsOf]; omega
  · rw [Nat.mul_one]
    simp only [Array.toList_append, nums_cells]
    rw [List.nil_append, List.take_left' (by rw [cellsOf_len])]
/-- the bytes of f, each once, ascending -/
def AscKeys (f : UInt8 → Option Nat) (ss : List UInt8) : Prop := ss.Pairwise (fun a b => a.toNat < b.toNat) ∧ ∀ c, c ∈ ss ↔ (f c).isSome = true
theorem sorted_back {ss : List UInt8} {R : Array Int} (hnd : ss.Nodup) (hp : PermIn 0 ss.length (numsOf ss) R) (hs : SortedIn ltInt 0 ss.length R) :
    ∃ ss' : List UInt8, R.toList = ss'.map (fun c => (c.toNat : Int)) ∧ ss'.length = ss.length ∧ ss'.Pairwise (fun a b => a.toNat < b.toNat) ∧ ∀ c, c ∈ ss' ↔ c ∈ ss := by
  have hsz : (numsOf ss).size = ss.length := by simp [numsOf]
  have hRs : R.size = ss.length := hp.1.trans hsz
  have hperm : R.toList.Perm (ss.map fun c => (c.toNat : Int)) := by
    have := hp.2.2
    rw [show R.extract 0 ss.length = R by rw [← hRs]; exact Array.extract_size, show (numsOf ss).extract 0 ss.length = numsOf ss by rw [← hsz]; exact Array.extract_size] at this
    simpa [numsOf] using this
  have hb : (backOf R).Perm ss := by
    have := hperm.map fun z => UInt8.ofNat z.toNat
    rw [back_nums] at this
    exact this
  have hRe : R.toList = (backOf R).map fun c => (c.toNat : Int) := by
    unfold backOf
    rw [List.map_map]
    conv => lhs; rw [← List.map_id R.toList]
    refine List.map_congr_left fun z hz => ?_
    obtain ⟨c, _, rfl⟩ := List.mem_map.1 (hperm.mem_iff.1 hz)
    simp
  have hle : (backOf R).Pairwise (fun a b => a.toNat ≤ b.toNat) := by
    have h1 : R.toList.Pairwise (fun a b => a ≤ b) := by
      rw [List.pairwise_iff_getElem]
      intro i j hi hj hij
      have hi' : i < R.size := by simpa using hi
      have hj' : j < R.size := by simpa using hj
      have := hs i j (Nat.zero_le _) hij (by omega)
      rw [getElem!_pos R j hj', getElem!_pos R i hi'] at this
      simp only [ltInt, decide_eq_false_iff_not] at this
      simp
      omega
    rw [hRe, List.pairwise_map] at h1
    exact h1.imp fun h => by omega
  have hnb : (backOf R).Nodup := hb.nodup_iff.2 hnd
  refine ⟨backOf R, hRe, hb.length_eq, ?_, fun c => hb.mem_iff⟩
  exact (hle.and hnb).imp fun {a b} h => by
    have : a.toNat ≠ b.toNat := fun e => h.2 (UInt8.toNat_inj.1 e)
    omega
/-- what Sort leaves -/
def Sorts (w : World) (A : Option Addr) (c : Nat) (ss : List UInt8) (e : Ending) (w' : World) : Prop :=
  e = .returned (.tuple #[]) ∧ ∃ ss' : List UInt8, ss'.length = ss.length ∧ ss'.Pairwise (fun a b => a.toNat < b.toNat) ∧ (∀ x, x ∈ ss' ↔ x ∈ ss) ∧ Own w' 5 1 A ss.length c (cellsOf ss') ∧ Fr (At A) w w'

set_option maxRecDepth 100000 in
set_option maxHeartbeats 4000000 in
theorem sort_any (w : World) (A : Option Addr) (c : Nat) (ss : List UInt8) (ho : Own w 5 1 A ss.length c (cellsOf ss)) (hnd : ss.Nodup) : Calls Try.prog 33 #[.slice A ss.length c] w (Sorts w A c ss) := by
  have hlen := nodup_u8 hnd
  have hL := fun w => len_any (ss.length : Int) w (by omega) (by omega)
  rw [show ((ss.length : Int)).toNat = ss.length from rfl] at hL
  have HL := Lib.hid hL
  clear hL
  rcases ho.form' with ⟨rfl, h0, rfl, _⟩ | ⟨g, rfl, _⟩
  · have hss : ss = [] := List.eq_nil_of_length_eq_zero h0
    subst hss
    go_enter Try.func33, Try.ntmps33
    go_wp2_with fail
    refine (HL.out _).mono ?_
    rintro e w1 ⟨rfl, rfl⟩
    go_wp2_with fail
    refine (pdq_nil _ _).mono ?_
    rintro e w1 ⟨rfl, rfl⟩
    go_wp2_with fail
    go_end0
    exact ⟨rfl, [], rfl, List.Pairwise.nil, fun x => Iff.rfl, ho, Fr.rfl' _ _⟩
  · obtain ⟨sp, hR, hsp⟩ := rowB_of ho rfl
    have hcl := ho.caplen
    have hsz : (numsOf ss).size = ss.length := by simp [numsOf]
    have hbl : Lib.bitLen ss.length ≤ 100 := by
      have h : ∀ n : Fin 257, Lib.bitLen n.val ≤ 100 := by decide +kernel
      exact h ⟨ss.length, by omega⟩
    have HP := Lib.hid (pdq_any g 0 c ss.length #[] sp (by omega) ss.length 0 ss.length (Lib.bitLen ss.length) (numsOf ss) w hR hsz (Nat.zero_le _) (Nat.le_refl _) (.inl rfl) (Nat.sub_zero _) hbl)
    have HN := Lib.hid hnd
    clear hR
    go_enter Try.func33, Try.ntmps33
    go_wp2_with fail
    refine (HL.out _).mono ?_
    rintro e w1 ⟨rfl, rfl⟩
    go_wp2_with fail
    refine HP.out.mono ?_
    rintro e w2 ⟨rfl, R, r1, r2, r3⟩
    go_wp2_with fail
    go_end0
    obtain ⟨ss', e1, e2, e3, e4⟩ := sorted_back HN.out r1 r2
    refine ⟨rfl, ss', e2, e3, e4, ?_, r3.fr.mono fun k _ hk => ⟨_, rfl, hk.symm⟩⟩
    rw [← e2]
    exact own_of_rowB r3.row e1 (by omega) hcl
/-- a row of the call's own with the bytes of f, each once, ascending -/
def GotS (w : World) (f : UInt8 → Option Nat) (e : Ending) (w' : World) : Prop :=
  ∃ A c ss, e = .returned (.slice A ss.length c) ∧ AscKeys f ss ∧ Own w' 5 1 A ss.length c (cellsOf ss) ∧ Fr Nil w w' ∧ ∀ k, At A k → w.heap.size ≤ k
set_option maxRecDepth 100000 in
set_option maxHeartbeats 1000000 in
theorem sortedk_any (w : World) (Bm b nn : Nat) (f : UInt8 → Option Nat) (hm : w.cell? ⟨Bm, 0, none⟩ = some (.map (some b))) (hown : MapB w b nn f) :
    Calls Try.prog 30 #[.func (.func 34) #[] #[.pointer (some ⟨Bm, 0, none⟩)]] w (GotS w f) := by
  have HC := Lib.hid (callsIn_wide.1 (collect_in w Bm b nn f hm hown))
  clear hm hown
  go_enter Try.func30, Try.ntmps30
  go_wp2_with fail
  refine HC.out.mono ?_
  rintro e w1 ⟨A, c, ss, rfl, h1, h2, h3, h4⟩
  go_wp2_with fail
  refine (sort_any w1 A c ss h2 h1.1).mono ?_
  rintro e w2 ⟨rfl, ss', e1, e2, e3, e4, e5⟩
  go_wp2_with fail
  go_ret
  refine ⟨A, c, ss', by rw [e1]; rfl, ⟨e2, fun x => (e3 x).trans (h1.2 x)⟩, by rw [e1]; exact e4, h3.trans' e5 fun k hk ha => by have := h4 k ha; omega, h4⟩
/-- 'slices.Sorted(maps.Keys(m))' -/
theorem keysv_any (mb : Option Nat) (w : World) : Calls Try.prog 31 #[.map mb] w fun e w' =>
    e = .returned (.func (.func 34) #[] #[.pointer (some ⟨w.heap.size, 0, none⟩)]) ∧ w' = w.alloc (.cells #[.map mb] 46) := callsIn_wide.1 (keys_any 1 mb w)
end Go.Proofs.Ythhlpbopbabojaa
