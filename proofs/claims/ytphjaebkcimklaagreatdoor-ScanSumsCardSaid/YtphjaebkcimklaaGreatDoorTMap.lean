/- The reference's sorted map: Get, Rank, Is. -/
import Derived.Test.YtphjaebkcimklaaGreatDoorTStr
import Derived.Laws.Strings
set_option linter.unusedVariables false
set_option linter.unusedSimpArgs false
namespace Go.Proofs.YtphjaebkcimklaaGreatDoor
open Go.RowKit

theorem info73b : (Tryz.prog.info? 56).map (fun i => (i.zero, i.size, i.bytes)) = some (some (.agg #[.string ⟨#[]⟩, .string ⟨#[]⟩]), 2, 32) := by kernel_rfl

theorem text_eq (a b : ByteArray) : (a.toList == b.toList) = decide (a = b) := by
  rw [ByteArray.toList_eq, ByteArray.toList_eq, Bool.eq_iff_iff]
  simp only [beq_iff_eq, decide_eq_true_eq]
  exact ⟨fun h => by rw [← strO_strL a, ← strO_strL b]; exact congrArg strO h, fun h => by rw [h]⟩
theorem text_ne {a b : ByteArray} (h : ¬ a = b) : (a.toList == b.toList) = false := by rw [text_eq]; exact decide_eq_false h

/-- A text as a value. -/
abbrev bs (l : Bytes) : Value := .string (strO l)
/-- A row of pairs of texts. -/
structure MIn (S : Nat → Prop) (w : World) (A : Option Addr) (n : Nat) (M : Pairs) : Prop where
  len : M.length = n
  cell : 0 < n → ∃ b o, A = some ⟨b, o, none⟩ ∧ b < w.heap.size ∧ S b ∧ ∀ j, j < n → w.cell? ⟨b, o + j * 2, none⟩ = some (bs (M.getD j ([], [])).1) ∧ w.cell? ⟨b, o + j * 2 + 1, none⟩ = some (bs (M.getD j ([], [])).2)
theorem MIn.carry {S : Nat → Prop} {w w1 : World} {A : Option Addr} {n : Nat} {M : Pairs} (h : MIn S w A n M) (hs : w.heap.size ≤ w1.heap.size) (hb : ∀ b, S b → b < w.heap.size → w1.heap[b]? = w.heap[b]?) : MIn S w1 A n M :=
  ⟨h.len, fun hn => by
    obtain ⟨b, o, e, hlt, hSb, hc⟩ := h.cell hn
    exact ⟨b, o, e, by omega, hSb, fun j hj => ⟨(cell_block (hb b hSb hlt)).trans (hc j hj).1, (cell_block (hb b hSb hlt)).trans (hc j hj).2⟩⟩⟩
theorem MIn.imp {S S' : Nat → Prop} {w : World} {A : Option Addr} {n : Nat} {M : Pairs} (h : MIn S w A n M) (hS : ∀ b, b < w.heap.size → S b → S' b) : MIn S' w A n M :=
  ⟨h.len, fun hn => by
    obtain ⟨b, o, e, hlt, hSb, hc⟩ := h.cell hn
    exact ⟨b, o, e, hlt, hS b hlt hSb, hc⟩⟩
theorem MIn.below {S : Nat → Prop} {w w1 : World} {A : Option Addr} {n : Nat} {M : Pairs} (h : MIn S w A n M) (hk : Below w.heap.size w w1) : MIn S w1 A n M := h.carry hk.size fun b _ hlt => hk.block b hlt
theorem MIn.kept {S : Nat → Prop} {m : Option Nat} {w w1 : World} {A : Option Addr} {n : Nat} {M : Pairs} (h : MIn S w A n M) (hk : Kept m w w1) (hm : ∀ b, S b → m ≠ some b) : MIn S w1 A n M := h.carry hk.size fun b hb hlt => hk.block b hlt (hm b hb)

/-- What a sorted map holds at a key. -/
def getM : Pairs → Bytes → Option Bytes
  | [], _ => none
  | (k, x) :: M, key => if k = key then some x else getM M key
theorem getM_none : ∀ (M : Pairs) (key : Bytes), (∀ i, i < M.length → (M.getD i ([], [])).1 ≠ key) → getM M key = none
  | [], _, _ => rfl
  | (k, x) :: M, key, h => by
    rw [getM, if_neg (by have := h 0 (by simp); simpa using this)]
    exact getM_none M key fun i hi => by have := h (i + 1) (by simpa using hi); simpa using this
theorem getM_some : ∀ (M : Pairs) (key : Bytes) (j : Nat), j < M.length → (∀ i, i < j → (M.getD i ([], [])).1 ≠ key) → (M.getD j ([], [])).1 = key → getM M key = some (M.getD j ([], [])).2
  | [], _, j, h, _, _ => by simp at h
  | (k, x) :: M, key, 0, _, _, h => by
    rw [getM, if_pos (by simpa using h)]; simp
  | (k, x) :: M, key, j + 1, hj, h, he => by
    rw [getM, if_neg (by have := h 0 (by omega); simpa using this)]
    have := getM_some M key j (by simpa using hj) (fun i hi => by have := h (i + 1) (by omega); simpa using this) (by simpa using he)
    rw [this]; simp

/-- What Get tells. -/
def gotM : Option Bytes → Value
  | none => .tuple #[.string ⟨#[]⟩, .bool false]
  | some x => .tuple #[bs x, .bool true]

set_option maxHeartbeats 3200000 in
theorem mget_any {S : Nat → Prop} (M : Pairs) (A : Option Addr) (n c : Nat) (s : ByteArray) (w : World) (hM : MIn S w A n M) (hn : n ≤ 1000000) :
    Calls Tryz.prog 56 #[.slice A n c, .string s] w fun e w' => e = .returned (gotM (getM M (strL s))) ∧ Below w.heap.size w w' := by
  have HM := Lib.hid hM
  clear hM
  go_enter Tryz.func56, Tryz.ntmps56
  go_wp2_with fail
  go_loopw [10] (fun v wr => ∃ j : Nat, v = .int .i64 (j : Int) ∧ j ≤ n ∧ Hid (∀ i, i < j → (M.getD i ([], [])).1 ≠ strL s) ∧ Below w.heap.size w wr) (fun v _ => n - (intOf v).toNat)
  case atStart => exact ⟨0, rfl, by omega, Lib.hid (fun i hi => by omega), Below.refl _ _⟩
  case round =>
    obtain ⟨j, rfl, hj, hno, hb⟩ := hrel
    have HB := Lib.hid hb
    clear hb
    by_cases hlt : j < n
    · obtain ⟨b, o, rfl, hbl, hSb, hc⟩ := (HM.out.below HB.out).cell (by omega)
      obtain ⟨c0, c1⟩ := hc j hlt
      have HL := Lib.hid HM.out.len
      obtain ⟨sk, hsk⟩ : ∃ sk, strO (M.getD j ([], [])).1 = sk := ⟨_, rfl⟩
      obtain ⟨sx, hsx⟩ : ∃ sx, strO (M.getD j ([], [])).2 = sx := ⟨_, rfl⟩
      have HSK := Lib.hid hsk
      have HSX := Lib.hid hsx
      simp only [bs, hsk, hsx] at c0 c1
      have al : (0 : Int) ≤ (j : Int) := by omega
      have al3 : (j : Int) < (n : Int) := by omega
      clear hc hsk hsx
      by_cases he : sk = s
      · have HE := Lib.hid he
        go_wp2_with fail
        go_ret2
        refine ⟨?_, HB.out.alloc HB.out.size _⟩
        rw [getM_some M (strL s) j (by rw [HL.out]; exact hlt) hno.out (by rw [← HE.out, ← HSK.out, strL_strO]), gotM, bs, HSX.out]
        rfl
      · have HE := Lib.hid he
        have he2 := text_ne he
        go_wp2_with fail
        go_roundw
        case rel => exact ⟨j + 1, by go_num, by omega, Lib.hid (fun i hi => by
          rcases Nat.lt_succ_iff_lt_or_eq.1 hi with h | rfl
          · exact hno.out i h
          · intro h; exact HE.out (by rw [← HSK.out, h, strO_strL])), HB.out.alloc HB.out.size _⟩
        case measure => simp [intOf]; omega
    · have HE : Hid (getM M (strL s) = none) := getM_none M _ (fun i hi => hno.out i (by rw [HM.out.len] at hi; omega))
      go_wp2_with fail
      go_ret2
      exact ⟨by rw [HE.out]; rfl, HB.out⟩

/-- How many keys lie below. -/
def belowM (M : Pairs) (key : Bytes) : Nat := M.countP fun p => decide (cmp p.1 key = -1)

set_option maxHeartbeats 6400000 in
theorem mis_any {S S' : Nat → Prop} (M : Pairs) (A A' : Option Addr) (n c c' : Nat) (w : World) (hL : LIn S w A n M) (hM : MIn S' w A' n M) (hn : n ≤ 1000000) :
    Calls Tryz.prog 24 #[.slice A n c, .slice A' n c'] w fun e w' => e = .returned (.bool true) ∧ ∃ q, w' = w.drewN q := by
  have HL := Lib.hid hL
  have HM := Lib.hid hM
  clear hL hM
  go_enter Tryz.func24, Tryz.ntmps24
  go_wp2_with fail
  go_loopw [13] (fun v wr => ∃ j : Nat, v = .int .i64 (j : Int) ∧ j ≤ n ∧ ∃ q, wr = w.drewN q) (fun v _ => n - (intOf v).toNat)
  case atStart => exact ⟨0, rfl, by omega, 0, rfl⟩
  case round =>
    obtain ⟨j, rfl, hj, q, rfl⟩ := hrel
    by_cases hlt : j < n
    · obtain ⟨b, o, rfl, hbl, hSb, hc⟩ := HL.out.cell (by omega)
      obtain ⟨b', o', rfl, hbl', hSb', hc'⟩ := HM.out.cell (by omega)
      obtain ⟨kv, xv, c0, c1, hk, hx⟩ := hc j hlt
      obtain ⟨d0, d1⟩ := hc' j hlt
      obtain ⟨Ak, nk, ck, rfl⟩ := hk.slice
      obtain ⟨Ax, nx, cx, rfl⟩ := hx.slice
      have hk2 := fun i => conv_bytes ((hk.below (below_drewN' q)).below (below_drewN' i))
      have hx2 := fun i => conv_bytes ((hx.below (below_drewN' q)).below (below_drewN' i))
      have HW := Lib.hid (fun i => World.drewN_drewN w q i)
      change (w.drewN q).cell? _ = _ at c0 c1 d0 d1
      simp only [bs] at d0 d1
      generalize w.drewN q = Y at *
      generalize strO (M.getD j ([], [])).1 = sk at *
      generalize strO (M.getD j ([], [])).2 = sx at *
      have al : (0 : Int) ≤ (j : Int) := by omega
      have al3 : (j : Int) < (n : Int) := by omega
      clear hc hc' hk hx
      go_wp2_with fail
      go_quiet (fail)
      go_wp2_with fail
      go_roundw
      case rel => exact ⟨j + 1, by go_num, by omega, q + nq, HW.out nq⟩
      case measure => simp [intOf]; omega
    · go_wp2_with fail
      go_ret
      exact ⟨rfl, q, rfl⟩

end Go.Proofs.YtphjaebkcimklaaGreatDoor
