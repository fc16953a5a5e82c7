/-
  Slices of bytes in a walk: a cell of one, 's[:k]', 'append(b, text...)'.
-/
import Derived.Test.YthhlpbopbabojaaStr
import Derived.Lib.AppendStr
namespace Go.Proofs.Ythhlpbopbabojaa
open Go.RowKit

section
variable {P : Program} {w : World} {B size n c : Nat} {A : Option Addr} {xs : List Value}
theorem Reads.to (h : Reads w B size A n xs) {k : Nat} (hk : k ≤ n) : Reads w B size A k (xs.take (k * size)) := by
  have hle : k * size ≤ n * size := Nat.mul_le_mul_right _ hk
  refine ⟨by rw [List.length_take, h.1]; omega, fun h0 => ?_⟩
  obtain ⟨ad, e, hb, hc⟩ := h.2 (by omega)
  refine ⟨ad, e, hb, fun j u hu => hc j u ?_⟩
  have := (List.getElem?_eq_some_iff.1 hu).1
  rw [List.length_take] at this
  rw [List.getElem?_take_of_lt (by omega)] at hu
  exact hu
theorem run_slice_to {t e : TypeId} {k : Nat} (ht : P.underlying t = some (.slice e)) (hs : (P.info? e).map (·.size) = some size) (hk : k ≤ n) (hc : n ≤ c) (W : World) :
    (Instr.slice t (.slice A n c) none (some (.int .i64 (k : Int))) none).run P W = .ok (.slice A k c) W := by
  obtain ⟨i, hi, rfl⟩ := Option.map_eq_some_iff.1 hs
  have h1 : ((k : Int)).toNat = k := Int.toNat_natCast k
  have h2 : k ≤ c := by omega
  simp [Instr.slice, Instr.sliceBounds, Instr.sliceBound, asIntOf, run_underlying ht, sizeOf, typeInfo, hi, h2]
  cases A with
  | none => simp
  | some ad => simp; intro _; cases ad; simp [Addr.add]
end
theorem add_zero_addr (a : Addr) : a.add 0 = a := by cases a; simp [Addr.add]
theorem run_index_addr {P : Program} {t e : TypeId} {n c k : Nat} {ad : Addr} (ht : P.underlying t = some (.slice e)) (hs : (P.info? e).map (·.size) = some 1) (hk : k < n) (W : World) :
    (Instr.indexAt t (.slice (some ad) n c) (.int .i64 (k : Int))).run P W = .ok (.pointer (some (ad.add k))) W := by
  obtain ⟨i, hi, hi1⟩ := Option.map_eq_some_iff.1 hs
  have he : P.elem t = e := by simp [Program.elem, ht]
  rw [run_indexAt_slice (h := by rw [he]; exact ht), if_pos (by omega), he]
  simp [sizeOf, typeInfo, hi, hi1]
theorem cellsOf_take (l : List UInt8) (k : Nat) : cellsOf (l.take k) = (cellsOf l).take k := by simp [cellsOf, List.map_take]
theorem cellsOf_drop (l : List UInt8) (k : Nat) : cellsOf (l.drop k) = (cellsOf l).drop k := by simp [cellsOf, List.map_drop]
theorem strCells_str (l : List UInt8) : Lib.strCells (str l) = cellsOf l := rfl
/-- bytes read of a slice -/
theorem reads_len {w : World} {B n : Nat} {A : Option Addr} {l : List UInt8} (h : Reads w B 1 A n (cellsOf l)) : l.length = n := by have := h.1; rw [cellsOf_len] at this; omega
theorem reads_byte {w : World} {B n k : Nat} {A : Option Addr} {l : List UInt8} {x : UInt8} (h : Reads w B 1 A n (cellsOf l)) (hx : l[k]? = some x) :
    ∃ ad, A = some ad ∧ ad.block < B ∧ w.cell? (ad.add k) = some (.int .u8 (x.toNat : Int)) := by
  have hl := reads_len h
  have hk := (List.getElem?_eq_some_iff.1 hx).1
  obtain ⟨ad, e, hb, hc⟩ := h.2 (by omega)
  exact ⟨ad, e, hb, hc k _ (by rw [cellsOf, List.getElem?_map, hx]; rfl)⟩
theorem reads_byte_at {w : World} {B n k : Nat} {ad : Addr} {l : List UInt8} {x : UInt8} (h : Reads w B 1 (some ad) n (cellsOf l)) (hx : l[k]? = some x) : w.cell? (ad.add k) = some (.int .u8 (x.toNat : Int)) := by
  obtain ⟨ad', e, _, hc⟩ := reads_byte h hx
  injection e with e
  subst e
  exact hc
theorem reads_drop {w : World} {B n c k : Nat} {A : Option Addr} {l : List UInt8} (h : Reads w B 1 A n (cellsOf l)) (hk : k ≤ n) (hc : n ≤ c) : Reads w B 1 (CutA A c k 1) (n - k) (cellsOf (l.drop k)) := by
  have := h.cutA hk hc
  rw [Nat.mul_one] at this
  rw [cellsOf_drop]
  exact this
theorem reads_take {w : World} {B n k : Nat} {A : Option Addr} {l : List UInt8} (h : Reads w B 1 A n (cellsOf l)) (hk : k ≤ n) : Reads w B 1 A k (cellsOf (l.take k)) := by
  have := h.to hk
  rw [Nat.mul_one] at this
  rw [cellsOf_take]
  exact this

theorem Reads.frAt {S : Nat → Prop} {w w' : World} {B size n : Nat} {A : Option Addr} {xs : List Value} (h : Reads w B size A n xs) (hB : B ≤ w.heap.size) (hf : Fr S w w') (hs : ∀ k, At A k → ¬ S k) : Reads w' B size A n xs := by
  refine ⟨h.1, fun hn => ?_⟩
  obtain ⟨ad, rfl, hb, hc⟩ := h.2 hn
  refine ⟨ad, rfl, hb, fun j u hu => ?_⟩
  rw [hf.cell (p := ad.add j) (by rw [block_of_add]; omega) (by rw [block_of_add]; exact hs _ ⟨ad, rfl, rfl⟩)]
  exact hc j u hu
theorem Reads.at_lt {w : World} {B size n : Nat} {A : Option Addr} {xs : List Value} (h : Reads w B size A n xs) (hn : 0 < n) {k : Nat} (hk : At A k) : k < B := by
  obtain ⟨ad, rfl, hb, _⟩ := h.2 hn
  obtain ⟨g, hg, rfl⟩ := hk
  injection hg with hg
  subst hg
  exact hb

section
variable {P : Program} (w : World)
/-- append(b, text...), b of the call's own -/
theorem run_append_str (t u ty e : TypeId) (ht : P.underlying t = some (.slice e)) (hu : P.underlying u = some .string) (hinfo : (P.info? e).map (fun i => (i.zero, i.size, i.bytes)) = some (some (.int .u8 0), 1, 1))
    (A : Option Addr) (n c : Nat) (xs : List Value) (hown : Own w e 1 A n c xs) (l : List UInt8) (h63 : n + l.length ≤ maxLen) (hbytes : n + l.length ≤ 140737488355328) :
    ∃ A' c' w', (Builtin.append_ #[t, u] ty #[.slice A n c, .string (str l)]).run P w = .ok (.slice A' (n + l.length) c') w' ∧ Own w' e 1 A' (n + l.length) c' (xs ++ cellsOf l) ∧ Fr (At A) w w' ∧
      (A' = A ∨ A' = some ⟨w.heap.size, 0, none⟩ ∧ w.heap.size < w'.heap.size) := by
  obtain ⟨i, hi, hz, hsize, hby⟩ := info_parts hinfo
  have hsl := size_str l
  have hml : maxLen = 9223372036854775807 := rfl
  obtain ⟨v', w', hr, h2, h3, hnil⟩ := Lib.run_append_own_string (P := P) w 0 t u ty e i ht hu hi hz hsize hby (.slice A n c) n xs hown (str l) (by rw [hsl]; exact h63) (by rw [hsl]; exact hbytes) (Nat.zero_le _)
  rw [strCells_str] at h2
  have hfr : Fr (At A) w w' := Fr.of_grown h3 fun k hk _ => at_ownBlock hk
  have key : ∃ A' c', v' = .slice A' (n + (str l).size) c' ∧ (A' = A ∨ A' = some ⟨w.heap.size, 0, none⟩) := by
    rcases hown.2 with ⟨hv, rfl⟩ | ⟨g, cap, cur, hv, hbg, hg, hnc, hcm, hcs, htake⟩
    · injection hv with hA _ hc
      subst hA hc
      by_cases hm : (str l).size = 0
      · have := hnil.2 ⟨rfl, hm⟩
        subst this
        exact ⟨none, 0, by rw [hm], .inl rfl⟩
      · have hr2 := run_append_nil_string (P := P) w t u ty e i (.int .u8 0) ht hu hi hz (str l) (by omega) (by omega) (by rw [hby]; omega)
        rw [hr2] at hr
        injection hr with hv2 _
        exact ⟨_, _, by rw [← hv2, Nat.zero_add], .inr rfl⟩
    · injection hv with hA _ hc
      subst hA hc
      by_cases hroom : n + (str l).size ≤ c
      · have hcs' : cur.size = c := by simpa using hcs
        have hr2 := Lib.run_append_room_string (P := P) w t u ty e i ht hu hi hsize g n c cur hg (str l) hroom (by omega)
        rw [hr2] at hr
        injection hr with hv2 _
        exact ⟨_, _, hv2.symm, .inl rfl⟩
      · have holds : ∀ j u, xs[j]? = some u → w.cell? ((⟨g, 0, none⟩ : Addr).add j) = some u := World.ownsRow.cells hown (g := g) rfl
        have hxl : xs.length = n := by simpa using hown.1
        have hr2 := Lib.run_append_grow_string (P := P) w t u ty e i (.int .u8 0) ht hu hi hz ⟨g, 0, none⟩ n c xs (by rw [hsize]; simpa using hxl) holds (str l) (by omega) (by omega) (by rw [hby]; exact growslice_fits (by omega) (by omega))
        rw [hr2] at hr
        injection hr with hv2 _
        exact ⟨_, _, hv2.symm, .inr rfl⟩
  obtain ⟨A', c', rfl, hA'⟩ := key
  rw [hsl] at h2 hr
  refine ⟨A', c', w', hr, h2, hfr, ?_⟩
  rcases hA' with h | h
  · exact .inl h
  · refine .inr ⟨h, ?_⟩
    subst h
    obtain h4 | ⟨g, h4, h5⟩ := Own.form' h2
    · cases h4.1
    · injection h4 with h4
      injection h4 with h4
      omega

theorem wpList_append_str {ops : Array Oper} {rest : List Oper} {o : Oper} {a : Act} {Q : Exit → Act → World → Prop} (hgd : o.guard = none) (s x : Operand) (t u : TypeId)
    (ho : o.op = .call { callee := .builtin .append, args := #[s, x], argTypes := #[t, u] })
    (e : TypeId) (ht : P.underlying t = some (.slice e)) (hu : P.underlying u = some .string) (hinfo : (P.info? e).map (fun i => (i.zero, i.size, i.bytes)) = some (some (.int .u8 0), 1, 1))
    (A : Option Addr) (n c : Nat) (xs : List Value) (hs : a.eval s = .slice A n c) (hown : Own w e 1 A n c xs) (l : List UInt8) (hx : a.eval x = .string (str l))
    (h63 : n + l.length ≤ maxLen) (hbytes : n + l.length ≤ 140737488355328)
    (h : ∀ A' c' w', Own w' e 1 A' (n + l.length) c' (xs ++ cellsOf l) → Fr (At A) w w' → (A' = A ∨ A' = some ⟨w.heap.size, 0, none⟩ ∧ w.heap.size < w'.heap.size) →
      wpList P ops Q rest (a.put o.dst (.slice A' (n + l.length) c')) w') : wpList P ops Q (o :: rest) a w := by
  refine wpList_plain hgd fun K hK => ?_
  obtain ⟨A', c', w', hr, h2, h3, h4⟩ := run_append_str (P := P) w t u o.type e ht hu hinfo A n c xs hown l h63 hbytes
  unfold Oper.wp execOp
  simp only [ho, resolve, invoke, builtin, Sem.run_bind, Sem.run_pure, Result.andThen_ok, List.map_toArray, List.map_cons, List.map_nil, hs, hx, hr]
  exact hK _ _ (h A' c' w' h2 h3 h4)
end

/-- the world behind '[]byte(s)' -/
def BWorld (P : Program) (W : World) (s : ByteArray) (e : TypeId) : World :=
  W.drew.alloc (.cells (bytesRow s (grownCap W s.size 0 e)) e ((bytesRow s (grownCap W s.size 0 e)).size, (bytesRow s (grownCap W s.size 0 e)).size + 1))
section
variable {P : Program}
theorem run_bytes_of {src dst e : TypeId} (s : ByteArray) (hs : P.underlying src = some .string) (hd : P.underlying dst = some (.slice e)) (he : P.underlying e = some (.int .u8)) (W : World) :
    (convert src dst (.string s)).run P W = .ok (.slice (some ⟨W.heap.size, 0, none⟩) s.size (grownCap W s.size 0 e)) (BWorld P W s e) := run_bytes_of_string W src dst e s hs hd he
theorem bw_size (W : World) (s : ByteArray) (e : TypeId) : (BWorld P W s e).heap.size = W.heap.size + 1 := by simp [BWorld]
theorem bw_fr (W : World) (s : ByteArray) (e : TypeId) : Fr Nil W (BWorld P W s e) := ((Fr.rfl' Nil W).drew).alloc _
theorem bw_cap (W : World) (s : ByteArray) (e : TypeId) : s.size ≤ grownCap W s.size 0 e := grownCap_ge W s.size 0 e
theorem bw_reads (W : World) (s : ByteArray) (e : TypeId) : Reads (BWorld P W s e) (W.heap.size + 1) 1 (some ⟨W.heap.size, 0, none⟩) s.size (cellsOf (bs s)) := by
  refine ⟨by rw [cellsOf_len, ← size_bs, Nat.mul_one], fun _ => ⟨_, rfl, by simp, fun j u hu => ?_⟩⟩
  rw [cellsOf, List.getElem?_map] at hu
  obtain ⟨b, hb, rfl⟩ := Option.map_eq_some_iff.1 hu
  have hj := (List.getElem?_eq_some_iff.1 hb).1
  have hj' : j < s.data.size := by rw [← size_bs] at hj; exact hj
  have h1 := World.cell?_alloc_mark W.drew (bytesRow s (grownCap W s.size 0 e)) e ((bytesRow s (grownCap W s.size 0 e)).size, (bytesRow s (grownCap W s.size 0 e)).size + 1) j
  have h2 := bytesRow_at s (grownCap W s.size 0 e) j hj'
  have h3 : s.data[j] = b := by
    have := (List.getElem?_eq_some_iff.1 hb).2
    exact this
  rw [h3] at h2
  rw [h2] at h1
  rw [Addr.add_lit, Nat.zero_add]
  exact h1
end
end Go.Proofs.Ythhlpbopbabojaa
