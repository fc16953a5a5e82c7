/-
  entity.Named, walked.
-/
import Derived.Test.YtblbcojkjknfdaaDoorNames
import Derived.Test.YtblbcojkjknfdaaDoorLongest
namespace Go.Proofs.YtblbcojkjknfdaaDoor
open Go.RowKit

def namL : List ByteArray := allS.map fun x => str x.1
theorem namL_cells : namL.map .string = nameCells allS := by rw [namL, nameCells, List.map_map]; rfl
theorem namL_bs : namL.map bs = namS := by
  rw [namL, namS, List.map_map]
  exact List.map_congr_left fun x _ => bs_str x.1
theorem namL_odd : namL.any oddS = false := by
  rw [List.any_eq_false]
  intro s hs
  obtain ⟨x, hx, rfl⟩ := List.mem_map.1 hs
  have := allU_small x (allS_perm.mem_iff.1 hx)
  intro h
  have h2 := of_decide_eq_true h
  rw [size_str] at h2
  omega
theorem namL_len : namL.length = 134 := by rw [namL, List.length_map, allS_len]
theorem new_names (w : World) (A : Option Addr) (c : Nat) (ho : Own w 9 1 A 134 c (nameCells allS)) : Calls Tryd.prog 45 #[.slice A 134 c] w fun e w' =>
    ∃ b P ns, e = .returned (.tuple #[.pointer (some ⟨b, 0, none⟩), .int .i64 0]) ∧ TrieAt w' w.heap.size b namL P ns ∧ Full (namL.map bs) P ns ∧ Fr Nil w w' := by
  refine (new_any w A 134 c namL (by rw [namL_cells]; exact ho.reads)).mono ?_
  rintro e w' ⟨hf, h | h | h | h⟩
  · have := h.1
    rw [namL_len] at this
    omega
  · have := h.2.1
    rw [namL_odd] at this
    cases this
  · have := h.2.2.1
    rw [namL_bs] at this
    exact (this namS_nodup).elim
  · obtain ⟨_, _, _, b, P, ns, he, ht, hfu, _⟩ := h
    exact ⟨b, P, ns, he, ht, hfu, hf⟩
/-- a text and a number -/
def RetSN (r : Pth × Nat) (w : World) (e : Ending) (w' : World) : Prop := e = .returned (.tuple #[.string (str r.1), .int .i64 r.2]) ∧ Fr Nil w w'

set_option maxRecDepth 100000 in
set_option maxHeartbeats 2000000 in
theorem named_any (w : World) (s : ByteArray) (hs : s.size ≤ 1048576) : Calls Tryd.prog 27 #[.string s] w (RetSN (namedP (bs s)) w) := by
  have HB := Lib.hid namL_bs
  rcases longR_named (bs s) with ⟨h0, hn⟩ | ⟨m, n, x, hr, hn0, hn1, hx, _, hn⟩
  · rw [hn]
    rw [← namL_bs] at h0
    have h0' : ((longR (namL.map bs) (bs s)).2 = (0 : Int)) := h0
    generalize hR : longR (namL.map bs) (bs s) = R at h0'
    obtain ⟨r1, r2⟩ := R
    obtain rfl : r2 = 0 := h0'
    clear h0 hn
    have HR := Lib.hid hR
    clear hR
    go_enter Tryd.func27, Tryd.ntmps27
    go_wp2_with (first
      | (go_at_call 46; refine (names_any _).mono ?_; rintro e w1 ⟨A, c, rfl, ho, hf1, hA⟩)
      | (go_at_call 45; refine (new_names w1 A c ho).mono ?_; rintro e w2 ⟨b, P, ns, rfl, ht, hfu, hf2⟩)
      | (go_at_call 47; refine (longest_any w2 w1.heap.size b s hs namL P ns ht hfu).mono ?_; rw [HR.out]; rintro e w3 ⟨rfl, hf3⟩))
    go_ret2
    exact ⟨rfl, (hf1.trans hf2).trans hf3⟩
  · rw [hn]
    rw [← namL_bs] at hr
    have HR := Lib.hid hr
    have hm : m < 134 := by have := (List.getElem?_eq_some_iff.1 hx).1; rw [allS_len] at this; exact this
    have hb := hs
    have hsz : (bs s).length ≤ 1048576 := by rw [← size_bs]; exact hs
    have hnn : ¬ (n : Int) = 0 := by omega
    have HX := Lib.hid hx
    clear hr hn hx hsz
    go_enter Tryd.func27, Tryd.ntmps27
    go_wp2_with (first
      | (go_at_call 46; refine (names_any _).mono ?_; rintro e w1 ⟨A, c, rfl, ho, hf1, hA⟩)
      | (go_at_call 45; refine (new_names w1 A c ho).mono ?_; rintro e w2 ⟨b, P, ns, rfl, ht, hfu, hf2⟩)
      | (go_at_call 47; refine (longest_any w2 w1.heap.size b s hs namL P ns ht hfu).mono ?_; rw [HR.out]; rintro e w3 ⟨rfl, hf3⟩)
      | (go_at_call 48
         refine (all_s w3).mono ?_
         rintro e w4 ⟨g, c4, rfl, ho4, hf4, hg⟩
         have k1 := ho4.cell (m * 2 + 1) (by omega)
         rw [(ent_at HX.out).2] at k1))
    go_ret2
    exact ⟨rfl, ((hf1.trans hf2).trans hf3).trans hf4⟩
end Go.Proofs.YtblbcojkjknfdaaDoor
