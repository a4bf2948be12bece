/- The reference of pairs: Of, Come, Is. -/
import Derived.Test.YtocideolihbnaaaPSame
set_option linter.unusedVariables false
set_option linter.unusedSimpArgs false
namespace Go.Proofs.Ytocideolihbnaaa
open Go.RowKit Go.Deep

theorem OwnM.snoc {base : Nat} {w1 : World} {v : Value} {M : Pairs} {k x : Bytes} (h : w1.ownsRow base 56 2 v (M.length + 1) (mvals M ++ [bs k, bs x])) : OwnM base w1 v (M ++ [(k, x)]) := by
  unfold OwnM; rw [mvals_append, List.length_append]; exact h
theorem OwnM.slice {base : Nat} {w : World} {v : Value} {M : Pairs} (h : OwnM base w v M) : ∃ A c, v = .slice A M.length c := own_slice h

set_option maxRecDepth 100000 in
set_option maxHeartbeats 3200000 in
theorem of_any {S : Nat → Prop} (L : Pairs) (A : Option Addr) (n c : Nat) (w : World) (hL : LIn S w A n L) (hn : n ≤ 100000) :
    Calls Try.prog 13 #[.slice A n c] w fun e w' => GotMap w w' e L := by
  obtain ⟨i0, hi, hz0, hz1, hz2⟩ := info_parts info73b
  have HL := Lib.hid hL
  clear hL
  go_enter Try.func13, Try.ntmps13
  go_wp2_with fail
  go_loopw [3, 8] (fun u v wr => ∃ (j : Nat) (A' : Option Addr) (c' : Nat), u = .slice A' j c' ∧ v = .int .i64 (j : Int) ∧ j ≤ n ∧ Hid (OwnM w.heap.size wr (.slice A' j c') (L.take j) ∧ Below w.heap.size w wr)) (fun _ v _ => n - (intOf v).toNat)
  case atStart => exact ⟨0, none, 0, rfl, rfl, by omega, Lib.hid ⟨World.ownsRow_nil _ _ _ _, Below.refl _ _⟩⟩
  case round =>
    obtain ⟨j, A', c', rfl, rfl, hj, hI⟩ := hrel
    by_cases hlt : j < n
    · obtain ⟨b, o, rfl, hbl, hSb, hc⟩ := (HL.out.below hI.out.2).cell (by omega)
      obtain ⟨kv, xv, c0, c1, hk, hx⟩ := hc j hlt
      obtain ⟨Ak, nk, ck, rfl⟩ := hk.slice
      obtain ⟨Ax, nx, cx, rfl⟩ := hx.slice
      have hjl : j < L.length := by rw [HL.out.len]; exact hlt
      have HT := Lib.hid (take_snoc' L j hjl)
      have HTL : Hid ((L.take j).length = j) := List.length_take_of_le (by omega)
      have al : (0 : Int) ≤ (j : Int) := by omega
      have al3 : (j : Int) < (n : Int) := by omega
      have hbx := (Below.refl _ wr).alloc (Nat.le_refl _) (.cells #[.slice Ak nk ck, .slice Ax nx cx] 34)
      have htw : Two (wr.alloc (.cells #[.slice Ak nk ck, .slice Ax nx cx] 34)) wr.heap.size (.slice Ak nk ck) (.slice Ax nx cx) := heap_new wr _
      have hck := conv_bytes (hk.below hbx)
      have hcx := conv_bytes (hx.below hbx)
      have HOX : Hid ((wr.alloc (.cells #[.slice Ak nk ck, .slice Ax nx cx] 34)).ownsRow w.heap.size 56 2 (.slice A' j c') j (mvals (L.take j)) ∧ Below w.heap.size w (wr.alloc (.cells #[.slice Ak nk ck, .slice Ax nx cx] 34))) := by
        refine ⟨?_, hI.out.2.alloc hI.out.2.size _⟩
        have := own_below hI.out.1 hbx
        rw [HTL.out] at this
        exact this
      obtain ⟨t0, t1⟩ := htw.cells
      obtain ⟨sk, hsk⟩ : ∃ sk, strO (L.getD j ([], [])).1 = sk := ⟨_, rfl⟩
      obtain ⟨sx, hsx⟩ : ∃ sx, strO (L.getD j ([], [])).2 = sx := ⟨_, rfl⟩
      have HSK := Lib.hid hsk
      have HSX := Lib.hid hsx
      rw [hsk] at hck
      rw [hsx] at hcx
      clear hc hk hx hbx htw hsk hsx hjl
      go_wp2_with (at_builtin; refine wpList_append_own _ rfl _ _ 27 rfl w.heap.size 56 i0 (.agg #[.string ⟨#[]⟩, .string ⟨#[]⟩]) 2 32 Try.underlying27 hi hz0 hz1 hz2 rfl (by decide) _ _ _ rfl (HOX.out.1.alloc _) ⟨wr.heap.size + 1, 0, none⟩ 1 1 [.string sk, .string sx] ?c1 rfl ?c2 (by simp [Value.oneCell']) ?c3 ?c4 ?c5 ?_)
      case c1 => simp [Act.eval]
      case c2 =>
        have := World.news_of_block (heap_new (wr.alloc (.cells #[.slice Ak nk ck, .slice Ax nx cx] 34)) (.cells #[.string sk, .string sx] 56))
        simpa using this
      case c3 => unfold maxLen; omega
      case c4 => omega
      case c5 => have := HOX.out.2.size; simp at this ⊢; omega
      intro v' w3 hown1 hgrow _
      obtain ⟨A3, c3, rfl⟩ := own_slice hown1
      have HN : Hid (OwnM w.heap.size w3 (.slice A3 (j + 1) c3) (L.take (j + 1)) ∧ Below w.heap.size w w3) := by
        refine ⟨?_, (HOX.out.2.alloc HOX.out.2.size _).grown hgrow (by have := HOX.out.2.size; simp at this ⊢; omega) (fun k e => (HOX.out.1.lt k e).1)⟩
        rw [HT.out]
        refine OwnM.snoc ?_
        rw [HTL.out, bs, bs, HSK.out, HSX.out]
        exact hown1
      clear hown1 hgrow t0 t1 hck hcx c0 c1
      go_wp2_with fail
      go_roundw
      case rel => exact ⟨j + 1, A3, c3, rfl, by go_num, by omega, HN⟩
      case measure => simp [intOf]; omega
    · obtain rfl : j = n := by omega
      have HE : Hid (L.take j = L) := List.take_of_length_le (by rw [HL.out.len]; exact Nat.le_refl _)
      have HF : Hid (GotMap w wr (.returned (.slice A' j c')) L) := by
        have h1 := hI.out.1
        rw [HE.out] at h1
        obtain ⟨A2, c2, e, hle, hm⟩ := h1.reads
        have hln := HL.out.len
        injection e with e1 e2 e3
        subst e1 e3
        exact ⟨A', c', by rw [hln], hle, hm, hI.out.2⟩
      go_wp2_with fail
      go_ret
      exact HF.out

theorem comeL_mem (L : Pairs) : ∀ p ∈ comeL L, p ∈ L := by
  have h : ∀ (L M : Pairs), ∀ p ∈ L.foldl (fun M p => insL p.1 p.2 M) M, p ∈ M ∨ p ∈ L := by
    intro L
    induction L with
    | nil => intro M p hp; exact .inl hp
    | cons q L ih =>
      intro M p hp
      rw [List.foldl_cons] at hp
      rcases ih _ p hp with h | h
      · rcases ins_mem q.1 q.2 M p h with h | h
        · exact .inr (by rw [h]; simp)
        · exact .inl h
      · exact .inr (List.mem_cons_of_mem _ h)
  intro p hp
  rcases h L [] p hp with h | h
  · cases h
  · exact h
theorem comeL_len (L : Pairs) : (comeL L).length ≤ L.length := by
  have h : ∀ (L M : Pairs), (L.foldl (fun M p => insL p.1 p.2 M) M).length ≤ M.length + L.length := by
    intro L
    induction L with
    | nil => intro M; simp
    | cons q L ih =>
      intro M
      rw [List.foldl_cons, List.length_cons]
      have h1 := ih (insL q.1 q.2 M)
      have h2 := ins_len q.1 q.2 M
      omega
  have := h L []
  simpa [comeL] using this

set_option maxRecDepth 100000 in
set_option maxHeartbeats 3200000 in
theorem rcome_any {S : Nat → Prop} (L : Pairs) (A : Option Addr) (n c : Nat) (w : World) (hM : MIn S w A n L) (hn : n ≤ 100000) (hk : ∀ p ∈ L, p.1.length ≤ 100000) :
    Calls Try.prog 17 #[.slice A n c] w fun e w' => GotMap w w' e (comeL L) := by
  have HM := Lib.hid hM
  have HK := Lib.hid hk
  clear hM hk
  go_enter Try.func17, Try.ntmps17
  go_wp2_with fail
  go_loopw [3, 8] (fun u v wr => ∃ (j m : Nat) (A' : Option Addr) (c' : Nat), u = .slice A' m c' ∧ v = .int .i64 (j : Int) ∧ j ≤ n ∧ Hid (m = (comeL (L.take j)).length ∧ m ≤ c' ∧ MIn (New w.heap.size) wr A' m (comeL (L.take j)) ∧ Below w.heap.size w wr)) (fun _ v _ => n - (intOf v).toNat)
  case atStart => exact ⟨0, 0, none, 0, rfl, rfl, by omega, Lib.hid ⟨rfl, Nat.le_refl _, ⟨rfl, fun h => by omega⟩, Below.refl _ _⟩⟩
  case round =>
    obtain ⟨j, m, A', c', rfl, rfl, hj, hI⟩ := hrel
    by_cases hlt : j < n
    · obtain ⟨b, o, rfl, hbl, hSb, hc⟩ := (HM.out.below hI.out.2.2.2).cell (by omega)
      obtain ⟨c0, c1⟩ := hc j hlt
      have hjl : j < L.length := by rw [HM.out.len]; exact hlt
      have HT := Lib.hid (take_snoc' L j hjl)
      obtain ⟨sk, hsk⟩ : ∃ sk, strO (L.getD j ([], [])).1 = sk := ⟨_, rfl⟩
      obtain ⟨sx, hsx⟩ : ∃ sx, strO (L.getD j ([], [])).2 = sx := ⟨_, rfl⟩
      have HSK := Lib.hid hsk
      have HSX := Lib.hid hsx
      simp only [bs, hsk, hsx] at c0 c1
      have al : (0 : Int) ≤ (j : Int) := by omega
      have al3 : (j : Int) < (n : Int) := by omega
      have hbx := (Below.refl _ wr).alloc (Nat.le_refl _) (.cells #[.string sk, .string sx] 56)
      have hml : m ≤ 1000000 := by
        have h1 := hI.out.1
        have h2 := comeL_len (L.take j)
        rw [List.length_take] at h2
        omega
      have HP := Lib.hid (mput_any' (comeL (L.take j)) A' m c' sk sx _ (hI.out.2.2.1.below hbx) hml (fun p hp => HK.out p (List.mem_of_mem_take (comeL_mem _ p hp))))
      have HB : Hid (Below w.heap.size w (wr.alloc (.cells #[.string sk, .string sx] 56))) := hI.out.2.2.2.alloc hI.out.2.2.2.size _
      have HPL : Hid (putM (comeL (L.take j)) (strL sk) (strL sx) = comeL (L.take (j + 1))) := by
        rw [HT.out, comeL_snoc, putM_ins _ _ _ (comeL_asc _), ← HSK.out, ← HSX.out, strL_strO, strL_strO]; exact rfl
      clear hc hbx hml hjl hsk hsx
      go_wp2_with fail
      refine HP.out.mono ?_
      rintro e w2 hgot
      rw [HPL.out] at hgot
      obtain ⟨A2, c2, rfl, g1, g2, g3⟩ := hgot
      have HN : Hid ((comeL (L.take (j + 1))).length ≤ c2 ∧ MIn (New w.heap.size) w2 A2 (comeL (L.take (j + 1))).length (comeL (L.take (j + 1))) ∧ Below w.heap.size w w2) :=
        ⟨g1, g2.imp fun b _ hb => Nat.le_trans HB.out.size hb, HB.out.trans (g3.mono HB.out.size)⟩
      clear g1 g2 g3 c0 c1
      go_wp2_with fail
      go_roundw
      case rel => exact ⟨j + 1, _, A2, c2, rfl, by go_num, by omega, Lib.hid ⟨rfl, HN.out⟩⟩
      case measure => simp [intOf]; omega
    · obtain rfl : j = n := by omega
      have HE : Hid (L.take j = L) := List.take_of_length_le (by rw [HM.out.len]; exact Nat.le_refl _)
      have HF : Hid (GotMap w wr (.returned (.slice A' m c')) (comeL L)) := by
        have h1 := hI.out
        rw [HE.out] at h1
        obtain ⟨e, h2, h3, h4⟩ := h1
        subst e
        exact ⟨A', c', rfl, h2, h3, h4⟩
      go_wp2_with fail
      go_ret
      exact HF.out

end Go.Proofs.Ytocideolihbnaaa
