/-
  cribblelaw22.plain, walked.
-/
import Derived.Test.YtblbcojkjknfdaaPlain
import Derived.Test.YtblbcojkjknfdaaOneP
namespace Go.Proofs.Ytblbcojkjknfdaa
open Go.RowKit

/-- no two texts beside each other, each token plain -/
def apartB : Bool → List Tok → Bool
  | _, [] => true
  | b, t :: l => plainB t && !(b && decide (t.kind = 1)) && apartB (decide (t.kind = 1)) l
theorem apart_snoc (l : List Tok) (t : Tok) (b : Bool) : apartB b (l ++ [t]) = (apartB b l && (plainB t && !((l.getLast?.elim b fun u => decide (u.kind = 1)) && decide (t.kind = 1)))) := by
  induction l generalizing b with
  | nil => simp [apartB]
  | cons u l ih =>
    rw [List.cons_append, apartB, ih, apartB]
    cases l with
    | nil => simp [Bool.and_assoc]
    | cons v l =>
      obtain ⟨z, hz⟩ : ∃ z, (v :: l).getLast? = some z := ⟨_, List.getLast?_eq_some_getLast (by simp)⟩
      simp [Bool.and_assoc, List.getLast?_cons_cons, hz]
theorem apart_app (a c : List Tok) (b : Bool) (h : apartB b a = false) : apartB b (a ++ c) = false := by
  induction a generalizing b with
  | nil => cases h
  | cons t a ih =>
    rw [List.cons_append, apartB]
    rw [apartB] at h
    cases h1 : apartB (decide (t.kind = 1)) a with
    | false => rw [ih _ h1]; simp
    | true => rw [h1, Bool.and_true] at h; rw [h]; simp
theorem apart_take {l : List Tok} {k : Nat} {t : Tok} (h : l[k]? = some t) (b : Bool) : apartB b (l.take (k + 1)) = (apartB b (l.take k) && (plainB t && !(((l.take k).getLast?.elim b fun u => decide (u.kind = 1)) && decide (t.kind = 1)))) := by
  obtain ⟨hk, rfl⟩ := List.getElem?_eq_some_iff.1 h
  rw [List.take_succ_eq_append_getElem hk, apart_snoc]
theorem apart_no {l : List Tok} {k : Nat} {t : Tok} (h : l[k]? = some t) (hp : (plainB t && !(((l.take k).getLast?.elim false fun u => decide (u.kind = 1)) && decide (t.kind = 1))) = false) : apartB false l = false := by
  have := apart_app (l.take (k + 1)) (l.drop (k + 1)) false (by rw [apart_take h, hp, Bool.and_false])
  rwa [List.take_append_drop] at this
theorem last_take {l : List Tok} {j : Nat} {u : Tok} (h : l[j]? = some u) (b : Bool) (f : Tok → Bool) : (l.take (j + 1)).getLast?.elim b f = f u := by
  obtain ⟨hk, rfl⟩ := List.getElem?_eq_some_iff.1 h
  rw [List.take_succ_eq_append_getElem hk, List.getLast?_concat]
  rfl
def ApI (w : World) (l : List Tok) (n : Nat) (s3 : Value) (wr : World) : Prop := ∃ k : Nat, k ≤ n ∧ s3 = .int .i64 k ∧ apartB false (l.take k) = true ∧ Fr Nil w wr


set_option maxRecDepth 100000 in
set_option maxHeartbeats 4000000 in
theorem apart_any (w : World) (A : Option Addr) (n c : Nat) (l : List Tok) (h : Toks w w.heap.size A n l) (hn : n ≤ 100) (hs : ∀ t ∈ l, t.n ≤ 1000) :
    Calls Try.prog 13 #[.slice A n c] w fun e w' => e = .returned (.bool (apartB false l)) ∧ Fr Nil w w' := by
  have HL := Lib.hid h.len
  have HS := Lib.hid hs
  clear hs
  go_enter Try.func13, Try.ntmps13
  go_wp2_with fail
  go_loopw [3] (fun s3 wr => ApI w l n s3 wr) (fun i _ => n - (intOf i).toNat)
  case atStart => exact ⟨0, Nat.zero_le _, rfl, rfl, Fr.rfl' _ w⟩
  case round =>
    obtain ⟨k, hk, rfl, hap, hf⟩ := hrel
    by_cases hlt : k < n
    · obtain ⟨ad, t, rfl, hab, ht, hok, k0, k1, k2, k3, k4⟩ := tok_at (h.fr hf (Nat.le_refl _) fun _ x => x.elim) hlt
      have hsm := HS.out t (List.mem_of_getElem? ht)
      have hbl : ad.block < wr.heap.size := by have := hf.size; omega
      have HP1 := Lib.hid (fun W (g : Fr Nil wr W) => (show Calls Try.prog 7 #[.agg #[.int .i64 t.kind, .string t.name, .string t.data, .slice t.A t.n t.c, .bool t.self]] W _ from plain_any W w.heap.size t (hok.fr g hf.size fun _ x => x.elim) (Nat.le_trans hf.size g.size) (by omega)))
      have KK := Lib.hid (fun W (g : Fr Nil wr W) => (g.cell (p := ad.add (k * 5)) (by rw [block_of_add]; exact hbl) fun h => h).trans k0)
      have HT := Lib.hid ht
      have HAP := Lib.hid hap
      clear hap ht hsm hok
      cases hpb : plainB t with
      | false =>
        have hd := Lib.hid (apart_no HT.out (by rw [hpb]; rfl))
        rw [hpb] at HP1
        go_wp2_with fail
        refine (HP1.out wr (Fr.rfl' _ wr)).mono ?_
        rintro e w1 ⟨rfl, f1⟩
        go_wp2_with fail
        go_ret
        exact ⟨by rw [hd.out]; rfl, hf.trans f1⟩
      | true =>
        rw [hpb] at HP1
        by_cases hk0 : k = 0
        · have hn2 : apartB false (l.take (k + 1)) = true := by rw [apart_take HT.out, HAP.out, hpb, show l.take k = [] by rw [hk0]; rfl]; rfl
          have hn2 := Lib.hid hn2
          have q0 : ¬ 0 < k := by omega
          have HK0 := Lib.hid hk0
          clear hk0
          go_wp2_with fail
          refine (HP1.out wr (Fr.rfl' _ wr)).mono ?_
          rintro e w1 ⟨rfl, f1⟩
          have y0 := KK.out w1 f1
          go_wp2_with fail
          go_roundw
          case rel => exact ⟨k + 1, by omega, by go_num, hn2.out, hf.trans f1⟩
          case measure => simp [intOf]; omega
        · have hk2 : 0 < k := by omega
          by_cases hk1 : t.kind = 1
          · obtain ⟨j, hj⟩ : ∃ j, k = j + 1 := ⟨k - 1, by omega⟩
            obtain ⟨_, u, hae, _, hu, _, u0, _, _, _, _⟩ := tok_at (h.fr hf (Nat.le_refl _) fun _ x => x.elim) (k := j) (by omega)
            obtain rfl := Option.some.inj hae
            rw [hk1] at KK HP1 k0
            have HK1 := Lib.hid hk1
            clear hk1
            have KU := Lib.hid (fun W (g : Fr Nil wr W) => (g.cell (p := ad.add (j * 5)) (by rw [block_of_add]; exact hbl) fun h => h).trans u0)
            rw [show j = k - 1 by omega] at KU
            have hj1 : j < n := by omega
            have hlast := Lib.hid (show ((l.take k).getLast?.elim false fun u => decide (u.kind = 1)) = decide (u.kind = 1) by rw [hj]; exact last_take hu _ _)
            have HJ := Lib.hid hj
            clear hu u0 hae hj hk0
            by_cases hu1 : u.kind = 1
            · rw [hu1] at KU
              have hd := Lib.hid (apart_no HT.out (by rw [hpb, hlast.out, hu1, HK1.out]; rfl))
              go_wp2_with fail
              refine (HP1.out wr (Fr.rfl' _ wr)).mono ?_
              rintro e w1 ⟨rfl, f1⟩
              have y0 := KK.out w1 f1
              have z0 := KU.out w1 f1
              go_wp2_with fail
              go_ret
              exact ⟨by rw [hd.out]; rfl, hf.trans f1⟩
            · have hn2 : apartB false (l.take (k + 1)) = true := by rw [apart_take HT.out, HAP.out, hpb, hlast.out, decide_eq_false hu1]; rfl
              have hn2 := Lib.hid hn2
              have q : (u.kind == 1) = false := by simpa using hu1
              go_wp2_with fail
              refine (HP1.out wr (Fr.rfl' _ wr)).mono ?_
              rintro e w1 ⟨rfl, f1⟩
              have y0 := KK.out w1 f1
              have z0 := KU.out w1 f1
              go_wp2_with fail
              go_roundw
              case rel => exact ⟨k + 1, by omega, by go_num, hn2.out, hf.trans f1⟩
              case measure => simp [intOf]; omega
          · have hn2 : apartB false (l.take (k + 1)) = true := by rw [apart_take HT.out, HAP.out, hpb, decide_eq_false hk1, Bool.and_false]; rfl
            have hn2 := Lib.hid hn2
            have q : (t.kind == 1) = false := by simpa using hk1
            go_wp2_with fail
            refine (HP1.out wr (Fr.rfl' _ wr)).mono ?_
            rintro e w1 ⟨rfl, f1⟩
            have y0 := KK.out w1 f1
            go_wp2_with fail
            go_roundw
            case rel => exact ⟨k + 1, by omega, by go_num, hn2.out, hf.trans f1⟩
            case measure => simp [intOf]; omega
    · obtain rfl : k = n := by omega
      have hta : l.take k = l := List.take_of_length_le (by rw [HL.out]; exact Nat.le_refl _)
      rw [hta] at hap
      have hap := Lib.hid hap
      go_wp2_with fail
      go_ret
      exact ⟨by rw [hap.out]; rfl, hf⟩
end Go.Proofs.Ytblbcojkjknfdaa
