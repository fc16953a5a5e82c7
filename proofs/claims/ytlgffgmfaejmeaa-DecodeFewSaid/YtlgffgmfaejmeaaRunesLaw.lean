/-
  The law DecodeRunes, walked.
-/
import Derived.Test.YtlgffgmfaejmeaaSes
import Derived.Test.YtlgffgmfaejmeaaRunes
namespace Go.Proofs.Ytlgffgmfaejmeaa
open Go.RowKit

/-- the world behind '[]rune(s)' -/
def RWorld (W : World) (s : ByteArray) : World :=
  W.drew.alloc (.cells (Conv.runesFrom s s.size 0 #[] ++ Array.replicate (grownCap W (Conv.runesFrom s s.size 0 #[]).size 0 21 - (Conv.runesFrom s s.size 0 #[]).size) (.int .i32 0)) 21)
def rl (s : ByteArray) : List Int := runeList s s.size 0
theorem rl_size (s : ByteArray) : (Conv.runesFrom s s.size 0 #[]).size = (rl s).length := by rw [runesFrom_list]; simp [rl]
theorem rw_fr (W : World) (s : ByteArray) : Fr Nil W (RWorld W s) := ((Fr.rfl' Nil W).drew).alloc _
theorem run_runes (s : ByteArray) (hs : s.size ≤ 1048576) (W : World) :
    (convert 9 29 (.string s)).run Try.prog W = .ok (.slice (some ⟨W.heap.size, 0, none⟩) (rl s).length (grownCap W (rl s).length 0 21)) (RWorld W s) := by
  rw [← rl_size]
  have := size_runesFrom s s.size 0 #[]
  exact run_runes_of_string W 9 29 21 s Try.underlying9 Try.underlying29 Try.underlying21 (by simp at this; omega)
theorem run_text (s : ByteArray) (cap : Nat) (W : World) :
    (convert 29 9 (.slice (some ⟨W.heap.size, 0, none⟩) (rl s).length cap)).run Try.prog (RWorld W s) = .ok (.string (str (bs (runesBytes (rl s))))) (RWorld W s) := by
  have h := run_convert_runes (P := Try.prog) (RWorld W s) 29 9 21 ⟨W.heap.size, 0, none⟩ (rl s).length cap (rl s) (Nat.le_refl _) Try.underlying29 Try.underlying21 Try.underlying9 (fun j hj => by
    rw [Addr.add_lit, Nat.zero_add]
    have h1 := World.cell?_alloc_mark W.drew (Conv.runesFrom s s.size 0 #[] ++ Array.replicate (grownCap W (Conv.runesFrom s s.size 0 #[]).size 0 21 - (Conv.runesFrom s s.size 0 #[]).size) (.int .i32 0)) 21 (0, 0) j
    refine h1.trans ?_
    rw [Array.getElem?_append_left (by rw [rl_size]; exact hj), runesFrom_list]
    simp only [Array.empty_append, List.getElem?_toArray, List.getElem?_map]
    show ((rl s)[j]?).map _ = _
    rw [List.getElem?_eq_getElem hj, List.getD_eq_getElem?_getD, List.getElem?_eq_getElem hj]
    rfl)
  rw [List.take_length] at h
  rw [str_bs]
  exact h

theorem runes_big (w : World) (s : ByteArray) (A2 : Option Addr) (n2 c2 : Nat) (hb : 2000 < s.size ∨ 2000 < n2) :
    Calls Try.prog 5 #[.string s, .slice A2 n2 c2] w fun e w' => e = .returned (.bool true) ∧ Fr Nil w w' := by
  have hno : (2000 : Int) < s.size ∨ ¬ (2000 : Int) < s.size ∧ (2000 : Int) < n2 := by omega
  have HNO := Lib.hid hno
  clear hno hb
  rcases HNO.out with h1 | ⟨h1, h2⟩
  all_goals
    go_enter Try.func5, Try.ntmps5
    go_wp2_with fail
    refine (awake_any _).mono ?_
    rintro e w1 ⟨rfl, f1⟩
    go_wp2_with fail
    refine (new_ses w _ f1).mono ?_
    rintro e w2 ⟨b, rfl, s2⟩
    go_wp2_with fail
    go_ret
    exact ⟨rfl, s2.frame⟩

set_option maxHeartbeats 800000 in
set_option maxRecDepth 100000 in
theorem runes_any (w : World) (s : ByteArray) (A2 : Option Addr) (n2 c2 : Nat) (lb : List UInt8) (hr2 : Reads w w.heap.size 1 A2 n2 (cellsOf lb)) :
    Calls Try.prog 5 #[.string s, .slice A2 n2 c2] w fun e w' => e = .returned (.bool true) ∧ Fr Nil w w' := by
  by_cases hb : 2000 < s.size ∨ 2000 < n2
  · exact runes_big w s A2 n2 c2 hb
  · have hn1 : ¬ (2000 : Int) < s.size := by omega
    have hn2 : ¬ (2000 : Int) < n2 := by omega
    have hrr := run_runes s (by omega)
    have hrt := run_text s
    have hfx := runesBytes_fixed (rl s)
    have hsz0 := runesBytes_size_le (rl s)
    have hrl : (rl s).length ≤ s.size := runeList_len s s.size 0
    have hsz : (str (bs (runesBytes (rl s)))).size ≤ 8000 := by rw [str_bs]; omega
    generalize bs (runesBytes (rl s)) = L at hrt hfx hsz
    have hww := hfx.W
    have HF := Lib.hid (And.intro hfx.1 (And.intro hfx.2 hww))
    clear hfx hww hsz0
    have hbv := fun (W : World) => run_bytes_of (P := Try.prog) (src := 9) (dst := 22) (e := 5) (str L) Try.underlying9 Try.underlying22 Try.underlying5 W
    have hcmp := str_beq_self (str L)
    have hem : (str (clo [])).toList.isEmpty = true := by rw [Lib.toList_data]; rfl
    go_enter Try.func5, Try.ntmps5
    go_wp2_with fail
    refine (awake_any _).mono ?_
    rintro e w1 ⟨rfl, f1⟩
    go_wp2_with fail
    refine (new_ses w _ f1).mono ?_
    rintro e w2 ⟨b, rfl, s2⟩
    go_wp2_with fail
    refine (write_ses w _ b [] (s2.fr (rw_fr w2 s)) A2 n2 c2 lb hr2 (by omega)).mono ?_
    rintro e w3 ⟨rfl, s3⟩
    go_wp2_with fail
    refine (close_ses w _ b _ s3).mono ?_
    rintro e w4 ⟨rfl, s4⟩
    go_wp2_with fail
    refine (write_ses' w w4 _ b [] s4 (bw_fr w4 (str L) 5) (w4.heap.size + 1) (some ⟨w4.heap.size, 0, none⟩) (str L).size (grownCap w4 (str L).size 0 5) L (bw_reads w4 (str L) 5) (by rw [bw_size]; exact Nat.le_refl _) (fun k hk => by
      obtain ⟨g, hg, rfl⟩ := hk
      injection hg with hg
      subst hg
      exact Nat.le_refl _) (by omega)).mono ?_
    rw [HF.out.1, HF.out.2.1]
    rintro e w5 ⟨rfl, s5⟩
    go_wp2_with fail
    refine (dwhole_any _ (w5.heap.size + 1) _ _ _ L (bw_reads w5 (str L) 5) (by rw [bw_size]; exact Nat.le_refl _) (by omega)).mono ?_
    rw [HF.out.2.2]
    rintro e w6 ⟨rfl, f6⟩
    have s6 := (s5.fr (bw_fr w5 (str L) 5)).fr f6
    go_wp2_with fail
    refine (close_ses w _ b _ s6).mono ?_
    rintro e w7 ⟨rfl, s7⟩
    go_wp2_with fail
    go_ret
    exact ⟨rfl, s7.frame⟩
end Go.Proofs.Ytlgffgmfaejmeaa
