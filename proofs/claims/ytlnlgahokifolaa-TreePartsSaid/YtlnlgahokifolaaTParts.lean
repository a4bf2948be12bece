/- The law TreeParts. -/
import Derived.Test.YtlnlgahokifolaaPSame
import Derived.Test.YtlnlgahokifolaaTMeters
import Derived.Maps.AppendAt
set_option linter.unusedVariables false
set_option linter.unusedSimpArgs false
namespace Go.Proofs.Ytlnlgahokifolaa
open Go.RowKit
attribute [local go_sem] max2_num min2_num maxOf_two minOf_two

theorem fld39' (W : World) (A A' : Option Addr) (n n' c c' : Nat) : (Instr.field 39 (.agg #[.slice A n c, .slice A' n' c']) 0).run Try.prog W = .ok (.slice A n c) W := by kernel_rfl

set_option maxRecDepth 100000 in
set_option maxHeartbeats 3200000 in
theorem parts_any {S : Nat → Prop} : ∀ (T : PT) (v : Value) (deep : Nat) (w : World), TIn S w v T → T.even → T.height ≤ deep → deep ≤ 64 → T.size ≤ 1000 →
    Calls Try.prog 21 #[v, .int .i64 (deep : Int)] w fun e w' => e = .returned (.bool true) ∧ Below w.heap.size w w' := by
  intro T
  induction T with
  | nil =>
    intro v deep w hT _ _ _ _
    obtain rfl : v = .pointer none := hT
    have HT := Lib.hid (fun W => (rfl : TIn S W (.pointer none) .nil))
    have h1 := Lib.hid (fun W => tsize_any (S := S) .nil (.pointer none) W (HT.out W))
    have h2 := Lib.hid (fun W => height_any (S := S) .nil (.pointer none) W (HT.out W) (by simp [PT.size]))
    have h3 := Lib.hid (fun W => left_any (S := S) .nil (.pointer none) W (HT.out W))
    have h4 := Lib.hid (fun W => right_any (S := S) .nil (.pointer none) W (HT.out W))
    have h5 := Lib.hid (fun W => root_any (S := S) (.pointer none) .nil W (HT.out W))
    have h6 := Lib.hid (fun W => list_any (S := S) .nil (.pointer none) W (HT.out W) (by simp [PT.size]))
    have z1 : ((PT.nil.size : Nat) : Int) = 0 := rfl
    have z2 : ((PT.nil.height : Nat) : Int) = 0 := rfl
    have z3 : PT.nil.size = 0 := rfl
    go_enter Try.func21, Try.ntmps21
    go_wp2_with fail
    refine (h1.out _).mono ?_
    rintro e w1 ⟨rfl, rfl⟩
    go_wp2_with fail
    refine (h2.out _).mono ?_
    rintro e w1 ⟨rfl, hb1⟩
    have B1 := Lib.hid hb1
    clear hb1
    go_wp2_with fail
    refine (h3.out _).mono ?_
    rintro e w2 ⟨u, rfl, hu, rfl⟩
    obtain rfl : u = .pointer none := hu
    go_wp2_with fail
    refine (h4.out _).mono ?_
    rintro e w2 ⟨u, rfl, hu, rfl⟩
    obtain rfl : u = .pointer none := hu
    go_wp2_with fail
    refine (h5.out _).mono ?_
    rintro e w2 ⟨u, rfl, hu, hb2⟩
    obtain ⟨kv, xv, rfl, hk, hx⟩ := hu
    obtain ⟨A, n, c, rfl⟩ := hk.slice
    obtain ⟨A', n', c', rfl⟩ := hx.slice
    obtain rfl : n = 0 := by
      obtain ⟨A0, n0, c0, e, _, hR, _⟩ := hk
      cases e
      exact hR.len.symm
    have hf := fun W => fld39' W A A' 0 n' c c'
    have B2 := Lib.hid (B1.out.trans (hb2.mono B1.out.size))
    clear hb2 hk hx
    go_wp2_with fail
    refine (h6.out _).mono ?_
    rintro e w3 ⟨A3, c3, rfl, _, _, hb3⟩
    have B3 := Lib.hid (B2.out.trans (hb3.mono B2.out.size))
    clear hb3
    go_wp2_with fail
    go_ret
    exact ⟨rfl, B3.out⟩
  | node l k x r ihl ihr =>
    intro v deep w hT hev hdeep hd64 hn
    obtain ⟨i0, hi, hz0, hz1, hz2⟩ := info_parts info39b
    obtain ⟨pa, rfl⟩ : ∃ pa, v = .pointer (some pa) := by obtain ⟨b, _, _, _, _, e, _⟩ := hT; exact ⟨_, e⟩
    have hl1 : l.height ≤ deep - 1 := by simp only [PT.height] at hdeep; omega
    have hr1 : r.height ≤ deep - 1 := by simp only [PT.height] at hdeep; omega
    have hd1 : 1 ≤ deep := by simp only [PT.height] at hdeep; omega
    have hsl : l.size ≤ 1000 := by simp only [PT.size] at hn; omega
    have hsr : r.size ≤ 1000 := by simp only [PT.size] at hn; omega
    have hsn : l.size + 1 + r.size ≤ 1000 := hn
    have HH : Hid (((PT.node l k x r).height : Int) = 1 + (if (l.height : Int) < (r.height : Int) then (r.height : Int) else (l.height : Int))) := by
      have : ((PT.node l k x r).height : Int) = 1 + (if (l.height : Int) < (r.height : Int) then (r.height : Int) else (l.height : Int)) := by
        simp only [PT.height]
        by_cases h : l.height < r.height
        · rw [if_pos (by omega)]; omega
        · rw [if_neg (by omega)]; omega
      exact this
    have HT := Lib.hid (fun W (h : Below w.heap.size w W) => hT.below h)
    have HEV := Lib.hid hev
    have IL := Lib.hid ihl
    have IR := Lib.hid ihr
    have hll := l.height_le
    have hrl := r.height_le
    clear hT hev ihl ihr hdeep hn
    go_enter Try.func21, Try.ntmps21
    go_wp2_with fail
    refine (left_any (.node l k x r) (.pointer (some pa)) w (HT.out w (Below.refl _ _))).mono ?_
    rintro e w1 ⟨u1, rfl, hu1, rfl⟩
    obtain ⟨lu, rfl⟩ := hu1.ptr
    have HL := Lib.hid (fun W (h : Below w.heap.size w W) => (show TIn S W (.pointer lu) l from TIn.below hu1 h))
    clear hu1
    go_wp2_with fail
    refine (right_any (.node l k x r) (.pointer (some pa)) w (HT.out w (Below.refl _ _))).mono ?_
    rintro e w1 ⟨u2, rfl, hu2, rfl⟩
    obtain ⟨ru, rfl⟩ := hu2.ptr
    have HR := Lib.hid (fun W (h : Below w.heap.size w W) => (show TIn S W (.pointer ru) r from TIn.below hu2 h))
    clear hu2
    go_wp2_with fail
    refine (listO_any l (.pointer lu) w (HL.out w (Below.refl _ _)) (by omega)).mono ?_
    rintro e w1 ⟨A1, c1, vs1, rfl, ho1, hb1⟩
    have H1 : Hid (OwnL w.heap.size w1 A1 l.size c1 vs1 l.list ∧ Below w.heap.size w w1) := ⟨ho1, hb1⟩
    clear ho1 hb1
    go_wp2_with fail
    refine (root_any (.pointer (some pa)) (.node l k x r) w1 (HT.out w1 H1.out.2)).mono ?_
    rintro e w2 ⟨u, rfl, hu, hb2⟩
    obtain ⟨kv, xv, rfl, hk, hx⟩ := hu
    obtain ⟨Ak, nk, ck, rfl⟩ := hk.slice
    obtain ⟨Ax, nx, cx, rfl⟩ := hx.slice
    have hbn : Below w2.heap.size w2 (w2.alloc (.cells #[.slice Ak nk ck, .slice Ax nx cx] 39)) := (Below.refl _ _).alloc (Nat.le_refl _) _
    have hsz2 := hb2.size
    have h1s := H1.out.2.size
    have far : ∀ b, New w1.heap.size b → w.heap.size ≤ b ∧ (Value.slice A1 l.size c1).ownBlock ≠ some b := fun b hb => ⟨Nat.le_trans h1s hb, fun e => by have h1 := H1.out.1.own.lt b e; have h2 : w1.heap.size ≤ b := hb; omega⟩
    have H2 : Hid (OwnL w.heap.size (w2.alloc (.cells #[.slice Ak nk ck, .slice Ax nx cx] 39)) A1 l.size c1 vs1 l.list ∧ BIn (fun b => w.heap.size ≤ b ∧ (Value.slice A1 l.size c1).ownBlock ≠ some b) (w2.alloc (.cells #[.slice Ak nk ck, .slice Ax nx cx] 39)) (.slice Ak nk ck) k ∧
        BIn (fun b => w.heap.size ≤ b ∧ (Value.slice A1 l.size c1).ownBlock ≠ some b) (w2.alloc (.cells #[.slice Ak nk ck, .slice Ax nx cx] 39)) (.slice Ax nx cx) x ∧ Below w.heap.size w w2) :=
      ⟨(H1.out.1.below hb2).below hbn, (hk.below hbn).imp fun b _ hb => far b hb, (hx.below hbn).imp fun b _ hb => far b hb, H1.out.2.trans (hb2.mono H1.out.2.size)⟩
    have h2s := H2.out.2.2.2.size
    clear hk hx hb2 hbn far hsz2 h1s
    go_wp2_with (at_builtin; refine wpList_append_own_at _ rfl _ _ 33 rfl w.heap.size 39 i0 (.agg #[.slice none 0 0, .slice none 0 0]) 2 48 Try.underlying33 hi hz0 hz1 hz2 rfl (by decide) _ _ _ rfl H2.out.1.own ⟨w2.heap.size, 0, none⟩ 1 1 [.slice Ak nk ck, .slice Ax nx cx] ?q1 rfl ?q2 (by simp [Value.oneCell']) ?q3 ?q4 ?q5 ?_)
    case q1 => simp [Act.eval]
    case q2 =>
      have := World.news_of_block (heap_new w2 (.cells #[.slice Ak nk ck, .slice Ax nx cx] 39))
      simpa using this
    case q3 => unfold maxLen; omega
    case q4 => omega
    case q5 => simp; omega
    intro v' w4 hown4 hgrow4 _ ho4
    obtain ⟨A4, c4, rfl⟩ := own_slice hown4
    have H4 : Hid (OwnL w.heap.size w4 A4 (l.size + 1) c4 (vs1 ++ [.slice Ak nk ck, .slice Ax nx cx]) (l.list ++ [(k, x)]) ∧ Below w.heap.size w w4) :=
      ⟨H2.out.1.snoc (by simp; omega) H2.out.2.1 H2.out.2.2.1 hown4 hgrow4 (by simpa using ho4), (H2.out.2.2.2.alloc h2s _).grown hgrow4 (by simp; omega) (fun k e => (H1.out.1.own.lt k e).1)⟩
    have h4s := H4.out.2.size
    clear hown4 hgrow4 ho4
    go_wp2_with fail
    refine (listO_any r (.pointer ru) w4 (HR.out w4 H4.out.2) (by omega)).mono ?_
    rintro e w5 ⟨A5, c5, vs5, rfl, ho5, hb5⟩
    obtain ⟨ad5, rfl, hnw5⟩ := own_news ho5.own ho5.is
    have H5 : Hid (OwnL w4.heap.size w5 (some ad5) r.size c5 vs5 r.list ∧ Below w4.heap.size w4 w5 ∧ ∀ j u, vs5[j]? = some u → w5.cell? (ad5.add j) = some u) := ⟨ho5, hb5, hnw5⟩
    have H45 : Hid (OwnL w.heap.size w5 A4 (l.size + 1) c4 (vs1 ++ [.slice Ak nk ck, .slice Ax nx cx]) (l.list ++ [(k, x)]) ∧ Below w.heap.size w w5) := ⟨H4.out.1.below hb5, H4.out.2.trans (hb5.mono H4.out.2.size)⟩
    have h5s := H45.out.2.size
    clear ho5 hb5 hnw5
    go_wp2_with (at_builtin; refine wpList_append_own_at _ rfl _ _ 33 rfl w.heap.size 39 i0 (.agg #[.slice none 0 0, .slice none 0 0]) 2 48 Try.underlying33 hi hz0 hz1 hz2 rfl (by decide) _ _ _ rfl H45.out.1.own ad5 r.size c5 vs5 ?q1 H5.out.1.own.1 H5.out.2.2 H5.out.1.ps.slices ?q3 ?q4 ?q5 ?_)
    case q1 => simp [Act.eval]
    case q3 => unfold maxLen; omega
    case q4 => omega
    case q5 => omega
    intro v' w6 hown6 hgrow6 _ ho6
    obtain ⟨A6, c6, rfl⟩ := own_slice hown6
    have hps : PsOf (fun b => w.heap.size ≤ b ∧ (Value.slice A4 (l.size + 1) c4).ownBlock ≠ some b) w6 ((vs1 ++ [.slice Ak nk ck, .slice Ax nx cx]) ++ vs5) (l.list ++ [(k, x)] ++ r.list) := by
      refine (H45.out.1.ps.append (H5.out.1.ps.imp fun b _ hb => ⟨by omega, fun e => ?_⟩)).grown hgrow6 (fun b hb _ e => hb.2 e)
      have := H4.out.1.own.lt b e; omega
    have hlst : l.list ++ [(k, x)] ++ r.list = (PT.node l k x r).list := by simp [PT.list]
    rw [hlst] at hps
    simp only [List.append_assoc, List.cons_append, List.nil_append] at hps
    have hlen6 : (PT.node l k x r).list.length = l.size + 1 + r.size := by rw [PT.size_list]; rfl
    have H6 : Hid (LIn (fun _ => True) w6 A6 (l.size + 1 + r.size) (PT.node l k x r).list ∧ Below w.heap.size w w6) :=
      ⟨(reads_own (S := fun _ => True) hown6 hps hlen6 (fun _ _ _ => trivial) (fun _ _ => trivial)).1, H45.out.2.grown hgrow6 h5s (fun k e => (H45.out.1.own.lt k e).1)⟩
    clear hown6 hgrow6 ho6 hps hlst hlen6
    have hdz : ¬ (deep : Int) = 0 := by omega
    go_wp2_with fail
    refine (list_any (.node l k x r) (.pointer (some pa)) w6 (HT.out w6 H6.out.2) (by simp only [PT.size]; omega)).mono ?_
    rintro e w7 ⟨A7, c7, rfl, hc7, hL7, hb7⟩
    have hS7 := same_any (PT.node l k x r).list (PT.node l k x r).list A7 A6 (PT.node l k x r).size (l.size + 1 + r.size) c7 c6 w7 hL7 (H6.out.1.below hb7) (by simp only [PT.size]; omega) (by omega)
    rw [decide_eq_true rfl] at hS7
    have HS7 := Lib.hid hS7
    have B7 : Hid (Below w.heap.size w w7) := H6.out.2.trans (hb7.mono H6.out.2.size)
    clear hS7 hL7 hb7 hc7
    go_wp2_with fail
    refine HS7.out.mono ?_
    rintro e w8 ⟨rfl, hb8⟩
    have B8 : Hid (Below w.heap.size w w8) := B7.out.trans (hb8.mono B7.out.size)
    clear hb8 HS7
    go_wp2_with fail
    refine (tsize_any (.node l k x r) (.pointer (some pa)) w8 (HT.out w8 B8.out)).mono ?_
    rintro e w9 ⟨rfl, rfl⟩
    go_wp2_with fail
    refine (tsize_any l (.pointer lu) w8 (HL.out w8 B8.out)).mono ?_
    rintro e w9 ⟨rfl, rfl⟩
    go_wp2_with fail
    refine (tsize_any r (.pointer ru) w8 (HR.out w8 B8.out)).mono ?_
    rintro e w9 ⟨rfl, rfl⟩
    have hszn : ((PT.node l k x r).size : Int) = (l.size : Int) + 1 + (r.size : Int) := by simp only [PT.size]; omega
    go_wp2_with fail
    refine (height_any (.node l k x r) (.pointer (some pa)) w8 (HT.out w8 B8.out) (by simp only [PT.size]; omega)).mono ?_
    rintro e w9 ⟨rfl, hb9⟩
    have B9 : Hid (Below w.heap.size w w9) := B8.out.trans (hb9.mono B8.out.size)
    clear hb9 hszn
    go_wp2_with fail
    refine (height_any l (.pointer lu) w9 (HL.out w9 B9.out) (by omega)).mono ?_
    rintro e wA ⟨rfl, hbA⟩
    have BA : Hid (Below w.heap.size w wA) := B9.out.trans (hbA.mono B9.out.size)
    clear hbA
    go_wp2_with fail
    refine (height_any r (.pointer ru) wA (HR.out wA BA.out) (by omega)).mono ?_
    rintro e wB ⟨rfl, hbB⟩
    have BB : Hid (Below w.heap.size w wB) := BA.out.trans (hbB.mono BA.out.size)
    clear hbB
    have hh := HH.out
    have ILc := Lib.hid (fun W (hW : Below w.heap.size w W) => IL.out (.pointer lu) (deep - 1) W (HL.out W hW) HEV.out.2.1 hl1 (by omega) (by omega))
    have IRc := Lib.hid (fun W (hW : Below w.heap.size w W) => IR.out (.pointer ru) (deep - 1) W (HR.out W hW) HEV.out.2.2 hr1 (by omega) (by omega))
    have hdm : ((deep - 1 : Nat) : Int) = (deep : Int) - 1 := by omega
    rw [hdm] at ILc IRc
    by_cases hlr : (l.height : Int) < (r.height : Int)
    · rw [if_pos hlr] at hh
      go_wp2_with fail
      refine (ILc.out wB BB.out).mono ?_
      rintro e wC ⟨rfl, hbC⟩
      have BC : Hid (Below w.heap.size w wC) := BB.out.trans (hbC.mono BB.out.size)
      clear hbC
      go_wp2_with fail
      refine (IRc.out wC BC.out).mono ?_
      rintro e wD ⟨rfl, hbD⟩
      have BD : Hid (Below w.heap.size w wD) := BC.out.trans (hbD.mono BC.out.size)
      clear hbD
      go_wp2_with fail
      go_ret
      exact ⟨rfl, BD.out⟩
    · rw [if_neg hlr] at hh
      go_wp2_with fail
      refine (ILc.out wB BB.out).mono ?_
      rintro e wC ⟨rfl, hbC⟩
      have BC : Hid (Below w.heap.size w wC) := BB.out.trans (hbC.mono BB.out.size)
      clear hbC
      go_wp2_with fail
      refine (IRc.out wC BC.out).mono ?_
      rintro e wD ⟨rfl, hbD⟩
      have BD : Hid (Below w.heap.size w wD) := BC.out.trans (hbD.mono BC.out.size)
      clear hbD
      go_wp2_with fail
      go_ret
      exact ⟨rfl, BD.out⟩

end Go.Proofs.Ytlnlgahokifolaa
