/- The laws SipRounds and SipBack, as walks. -/
import Derived.Test.YtocideolihbnaaaDoorSAwake
set_option linter.unusedVariables false
set_option linter.unusedSimpArgs false
namespace Go.Proofs.YtocideolihbnaaaDoor
open Go.RowKit

theorem below_drew1 {B : Nat} {w W : World} (h : Below B w.drew W) : Below B w W := ⟨h.os, h.tape, h.output, h.size, h.block⟩

theorem eqSt (a b c d a' b' c' d' : Int) (w : World) : (Op.equalIn 10000 31 (.agg #[.int .u64 a, .int .u64 b, .int .u64 c, .int .u64 d]) (.agg #[.int .u64 a', .int .u64 b', .int .u64 c', .int .u64 d'])).run Tryd.prog w = .ok (a == a' && (b == b' && (c == c' && d == d'))) w := by
  have u3 := Tryd.underlying26
  have a3 := Tryd.isAgg26
  have z3 := Tryd.sizeOf26
  rw [show (10000 : Nat) = 9999 + 1 from rfl, Op.equalIn]
  simp only [Sem.run_bind, run_underlying Tryd.underlying31, Result.andThen_ok]
  simp only [Std.Legacy.Range.forIn_eq_forIn_range', Std.Legacy.Range.size, Nat.sub_zero, Nat.add_sub_cancel, Nat.div_one, List.range'_succ, List.range'_zero, List.forIn_cons, List.forIn_nil]
  go_simp
  by_cases h1 : a = a' <;> by_cases h2 : b = b' <;> by_cases h3 : c = c' <;> by_cases h4 : d = d' <;> simp [h1, h2, h3, h4]
theorem eqSt_same (a b c d : Int) (w : World) : (Op.equalIn 10000 31 (.agg #[.int .u64 a, .int .u64 b, .int .u64 c, .int .u64 d]) (.agg #[.int .u64 a, .int .u64 b, .int .u64 c, .int .u64 d])).run Tryd.prog w = .ok true w := by
  rw [eqSt]; simp

/-- Four cells of a block. -/
def Four (w' : World) (b : Nat) (p q r s : Nat) : Prop := w'.cell? ⟨b, 0, none⟩ = some (.int .u64 (p : Int)) ∧ w'.cell? ⟨b, 1, none⟩ = some (.int .u64 (q : Int)) ∧ w'.cell? ⟨b, 2, none⟩ = some (.int .u64 (r : Int)) ∧ w'.cell? ⟨b, 3, none⟩ = some (.int .u64 (s : Int))

set_option maxHeartbeats 3200000 in
theorem sipRounds_any (x : St) (w : World) (h : x.ok) (hT : TabOK w) : Calls Tryd.prog 4 #[x.v] w fun e w' => e = .returned (.bool true) ∧ Below w.heap.size w w' := by
  have R1 := Lib.hid (fun w => round_any x w h)
  have R2 := Lib.hid (fun w => refRounds_any x 1 w h (by omega))
  have e1 : itN 1 x = roundN x := rfl
  rw [e1] at R2
  clear e1
  obtain ⟨p, q, r, s⟩ := x
  generalize roundN ⟨p, q, r, s⟩ = y at *
  obtain ⟨y1, y2, y3, y4⟩ := y
  have hl : Lies (w.alloc (.cells #[.int .u64 (p : Int), .int .u64 (q : Int), .int .u64 (r : Int), .int .u64 (s : Int)] 31)) w.heap.size 31 ⟨p, q, r, s⟩ := heap_new w _
  have hb := (Below.refl _ w).alloc (Nat.le_refl _) (.cells #[.int .u64 (p : Int), .int .u64 (q : Int), .int .u64 (r : Int), .int .u64 (s : Int)] 31)
  have HL := Lib.hid hl
  have HB := Lib.hid hb
  have HT := Lib.hid (hT.below hb)
  clear h hT hl hb
  simp only [St.v] at *
  have EQ := eqSt_same (y1 : Int) y2 y3 y4
  go_enter Tryd.func4, Tryd.ntmps4
  go_wp2_with fail
  obtain ⟨c0, c1, c2, c3⟩ := HL.out.cells
  generalize w.alloc (.cells #[.int .u64 (p : Int), .int .u64 (q : Int), .int .u64 (r : Int), .int .u64 (s : Int)] 31) = X at *
  go_region_held3 (fun w' => w'.cell? ⟨w.heap.size, 0, none⟩ = some (.int .u64 (p : Int)) ∧ w'.cell? ⟨w.heap.size, 1, none⟩ = some (.int .u64 (q : Int)) ∧ w'.cell? ⟨w.heap.size, 2, none⟩ = some (.int .u64 (r : Int)) ∧ w'.cell? ⟨w.heap.size, 3, none⟩ = some (.int .u64 (s : Int)))
    (first | with_reducible exact ⟨c0, c1, c2, c3⟩ | with_reducible exact HL1.out.cells | with_reducible exact HL2.out.cells | with_reducible exact HL3.out.cells | go_keep)
    (first
      | (go_at_call 11; refine (R1.out _).mono ?_; rintro e wa ⟨rfl, hb⟩; have HL1 : Hid (Lies wa w.heap.size 31 ⟨p, q, r, s⟩) := HL.out.below (below_drew1 hb) HL.out.lt; have HT1 : Hid (TabOK wa) := HT.out.below (below_drew1 hb); have HB1 : Hid (Below w.heap.size w wa) := HB.out.trans ((below_drew1 hb).mono HB.out.size); clear hb)
      | (go_at_call 12; refine (R2.out _).mono ?_; rintro e wb ⟨rfl, hb⟩; have HL2 : Hid (Lies wb w.heap.size 31 ⟨p, q, r, s⟩) := HL1.out.below hb HL1.out.lt; have HT2 : Hid (TabOK wb) := HT1.out.below hb; have HB2 : Hid (Below w.heap.size w wb) := HB1.out.trans (hb.mono HB1.out.size); clear hb)
      | (go_at_call 8; refine (awake_any _ HT2.out).mono ?_; rintro e wc ⟨rfl, hb⟩; have HL3 : Hid (Lies wc w.heap.size 31 ⟨p, q, r, s⟩) := HL2.out.below hb HL2.out.lt; have HB3 : Hid (Below w.heap.size w wc) := HB2.out.trans (hb.mono HB2.out.size); clear hb))
  go_wp2_with fail
  go_ret
  exact ⟨rfl, HB3.out⟩

/-! ### A round loses nothing -/
theorem rotN_inj {x y k : Nat} (hk : k < 64) (hx : x < 18446744073709551616) (hy : y < 18446744073709551616) (h : rotN x k = rotN y k) : x = y := by
  have h1 := (rot_add x k hk).resolve_right (by omega)
  have h2 := (rot_add y k hk).resolve_right (by omega)
  rw [h1, h2] at h
  have e : (18446744073709551616 : Nat) = 2 ^ (64 - k) * 2 ^ k := by rw [← Nat.pow_add, show 64 - k + k = 64 by omega]
  have b1 : x / 2 ^ (64 - k) < 2 ^ k := by rw [Nat.div_lt_iff_lt_mul (Nat.pow_pos (by omega)), Nat.mul_comm, ← e]; omega
  have b2 : y / 2 ^ (64 - k) < 2 ^ k := by rw [Nat.div_lt_iff_lt_mul (Nat.pow_pos (by omega)), Nat.mul_comm, ← e]; omega
  have hp : 0 < 2 ^ k := Nat.pow_pos (by omega)
  have m1 : (x % 2 ^ (64 - k) * 2 ^ k + x / 2 ^ (64 - k)) % 2 ^ k = x / 2 ^ (64 - k) := by rw [Nat.mul_comm, Nat.mul_add_mod, Nat.mod_eq_of_lt b1]
  have m2 : (y % 2 ^ (64 - k) * 2 ^ k + y / 2 ^ (64 - k)) % 2 ^ k = y / 2 ^ (64 - k) := by rw [Nat.mul_comm, Nat.mul_add_mod, Nat.mod_eq_of_lt b2]
  have d1 : (x % 2 ^ (64 - k) * 2 ^ k + x / 2 ^ (64 - k)) / 2 ^ k = x % 2 ^ (64 - k) := by rw [Nat.mul_comm, Nat.mul_add_div hp, Nat.div_eq_of_lt b1, Nat.add_zero]
  have d2 : (y % 2 ^ (64 - k) * 2 ^ k + y / 2 ^ (64 - k)) / 2 ^ k = y % 2 ^ (64 - k) := by rw [Nat.mul_comm, Nat.mul_add_div hp, Nat.div_eq_of_lt b2, Nat.add_zero]
  rw [h] at m1 d1
  have q1 : x / 2 ^ (64 - k) = y / 2 ^ (64 - k) := m1.symm.trans m2
  have q2 : x % 2 ^ (64 - k) = y % 2 ^ (64 - k) := d1.symm.trans d2
  rw [← Nat.div_add_mod x (2 ^ (64 - k)), ← Nat.div_add_mod y (2 ^ (64 - k)), q1, q2]
theorem mixN_inj {a b c d k : Nat} (hk : k < 64) (ha : a < 18446744073709551616) (hb : b < 18446744073709551616) (hc : c < 18446744073709551616) (hd : d < 18446744073709551616)
    (h1 : (mixN a b k).1 = (mixN c d k).1) (h2 : (mixN a b k).2 = (mixN c d k).2) : a = c ∧ b = d := by
  unfold mixN at h1 h2
  dsimp only at h1 h2
  rw [h1] at h2
  have h3 : rotN b k = rotN d k := by
    have := congrArg (· ^^^ addN c d) h2
    simpa [Nat.xor_assoc] using this
  obtain rfl := rotN_inj hk hb hd h3
  unfold addN at h1
  exact ⟨by omega, rfl⟩
theorem roundN_inj {x y : St} (hx : x.ok) (hy : y.ok) (h : roundN x = roundN y) : x = y := by
  obtain ⟨p, q, r, s⟩ := x
  obtain ⟨p', q', r', s'⟩ := y
  obtain ⟨h1, h2, h3, h4⟩ := hx
  obtain ⟨g1, g2, g3, g4⟩ := hy
  dsimp only at h1 h2 h3 h4 g1 g2 g3 g4
  have a := mixN_lt p q 13 h2
  have b := mixN_lt r s 16 h4
  have a' := mixN_lt p' q' 13 g2
  have b' := mixN_lt r' s' 16 g4
  have d := mixN_lt (mixN r s 16).1 (mixN p q 13).2 17 a.2
  have d' := mixN_lt (mixN r' s' 16).1 (mixN p' q' 13).2 17 a'.2
  unfold roundN at h
  dsimp only at h
  injection h with e1 e2 e3 e4
  obtain ⟨k1, k2⟩ := mixN_inj (by omega) (rotN_lt _ _ a.1) b.2 (rotN_lt _ _ a'.1) b'.2 e1 e4
  obtain ⟨k3, k4⟩ := mixN_inj (by omega) b.1 a.2 b'.1 a'.2 (rotN_inj (by omega) d.1 d'.1 e3) e2
  obtain ⟨rfl, rfl⟩ := mixN_inj (by omega) h1 h2 g1 g2 (rotN_inj (by omega) a.1 a'.1 k1) k4
  obtain ⟨rfl, rfl⟩ := mixN_inj (by omega) h3 h4 g3 g4 k3 k2
  rfl
theorem eqSt_v (x y : St) (w : World) : (Op.equalIn 10000 31 x.v y.v).run Tryd.prog w = .ok (decide (x = y)) w := by
  obtain ⟨p, q, r, s⟩ := x
  obtain ⟨p', q', r', s'⟩ := y
  simp only [St.v]
  rw [eqSt]
  congr 1
  rw [Bool.eq_iff_iff]
  simp [Int.ofNat_inj]

set_option maxHeartbeats 3200000 in
theorem sipBack_any (x y : St) (w : World) (h : x.ok) (h' : y.ok) (hT : TabOK w) : Calls Tryd.prog 7 #[x.v, y.v] w fun e w' => e = .returned (.bool true) ∧ Below w.heap.size w w' := by
  have R1 := Lib.hid (fun w => round_any x w h)
  have R2 := Lib.hid (fun w => round_any y w h')
  have E1 := fun w => eqSt_v x y w
  have E2 := fun w => eqSt_v (roundN x) (roundN y) w
  have e : decide (roundN x = roundN y) = decide (x = y) := by
    rw [decide_eq_decide]; exact ⟨roundN_inj h h', fun e => by rw [e]⟩
  rw [e] at E2
  clear e
  generalize decide (x = y) = B at *
  obtain ⟨p, q, r, s⟩ := x
  obtain ⟨p', q', r', s'⟩ := y
  generalize roundN ⟨p, q, r, s⟩ = y at *
  generalize roundN ⟨p', q', r', s'⟩ = z at *
  obtain ⟨y1, y2, y3, y4⟩ := y
  obtain ⟨z1, z2, z3, z4⟩ := z
  have hl0 : Lies (w.alloc (.cells #[.int .u64 (p : Int), .int .u64 (q : Int), .int .u64 (r : Int), .int .u64 (s : Int)] 31)) w.heap.size 31 ⟨p, q, r, s⟩ := heap_new w _
  have hl : Lies ((w.alloc (.cells #[.int .u64 (p : Int), .int .u64 (q : Int), .int .u64 (r : Int), .int .u64 (s : Int)] 31)).alloc (.cells #[.int .u64 (p' : Int), .int .u64 (q' : Int), .int .u64 (r' : Int), .int .u64 (s' : Int)] 31)) w.heap.size 31 ⟨p, q, r, s⟩ := heap_old _ hl0
  have hm : Lies ((w.alloc (.cells #[.int .u64 (p : Int), .int .u64 (q : Int), .int .u64 (r : Int), .int .u64 (s : Int)] 31)).alloc (.cells #[.int .u64 (p' : Int), .int .u64 (q' : Int), .int .u64 (r' : Int), .int .u64 (s' : Int)] 31)) (w.heap.size + 1) 31 ⟨p', q', r', s'⟩ := by
    have := heap_new (w.alloc (.cells #[.int .u64 (p : Int), .int .u64 (q : Int), .int .u64 (r : Int), .int .u64 (s : Int)] 31)) (.cells #[.int .u64 (p' : Int), .int .u64 (q' : Int), .int .u64 (r' : Int), .int .u64 (s' : Int)] 31)
    rw [World.size_alloc] at this
    exact this
  have hb := ((Below.refl _ w).alloc (Nat.le_refl _) (.cells #[.int .u64 (p : Int), .int .u64 (q : Int), .int .u64 (r : Int), .int .u64 (s : Int)] 31)).alloc (by simp) (.cells #[.int .u64 (p' : Int), .int .u64 (q' : Int), .int .u64 (r' : Int), .int .u64 (s' : Int)] 31)
  have HL := Lib.hid (And.intro hl hm)
  have HB := Lib.hid hb
  have HT := Lib.hid (hT.below hb)
  clear h h' hT hl hm hb hl0
  simp only [St.v] at *
  go_enter Tryd.func7, Tryd.ntmps7
  go_wp2_with fail
  obtain ⟨c0, c1, c2, c3⟩ := HL.out.1.cells
  obtain ⟨d0, d1, d2, d3⟩ := HL.out.2.cells
  generalize (w.alloc (.cells #[.int .u64 (p : Int), .int .u64 (q : Int), .int .u64 (r : Int), .int .u64 (s : Int)] 31)).alloc (.cells #[.int .u64 (p' : Int), .int .u64 (q' : Int), .int .u64 (r' : Int), .int .u64 (s' : Int)] 31) = X at *
  go_region_held3 (fun w' => (w'.cell? ⟨w.heap.size, 0, none⟩ = some (.int .u64 (p : Int)) ∧ w'.cell? ⟨w.heap.size, 1, none⟩ = some (.int .u64 (q : Int)) ∧ w'.cell? ⟨w.heap.size, 2, none⟩ = some (.int .u64 (r : Int)) ∧ w'.cell? ⟨w.heap.size, 3, none⟩ = some (.int .u64 (s : Int))) ∧
      w'.cell? ⟨w.heap.size + 1, 0, none⟩ = some (.int .u64 (p' : Int)) ∧ w'.cell? ⟨w.heap.size + 1, 1, none⟩ = some (.int .u64 (q' : Int)) ∧ w'.cell? ⟨w.heap.size + 1, 2, none⟩ = some (.int .u64 (r' : Int)) ∧ w'.cell? ⟨w.heap.size + 1, 3, none⟩ = some (.int .u64 (s' : Int)))
    (first | with_reducible exact ⟨⟨c0, c1, c2, c3⟩, d0, d1, d2, d3⟩ | with_reducible exact ⟨HL1.out.1.cells, HL1.out.2.cells⟩ | with_reducible exact ⟨HL2.out.1.cells, HL2.out.2.cells⟩ | with_reducible exact ⟨HL3.out.1.cells, HL3.out.2.cells⟩ | go_keep)
    (first
      | (go_at_call 11; (with_reducible refine (R1.out _).mono ?_); rintro e wa ⟨rfl, hb⟩; have HL1 : Hid (Lies wa w.heap.size 31 ⟨p, q, r, s⟩ ∧ Lies wa (w.heap.size + 1) 31 ⟨p', q', r', s'⟩) := ⟨HL.out.1.below (below_drew1 hb) HL.out.1.lt, HL.out.2.below (below_drew1 hb) HL.out.2.lt⟩; have HT1 : Hid (TabOK wa) := HT.out.below (below_drew1 hb); have HB1 : Hid (Below w.heap.size w wa) := HB.out.trans ((below_drew1 hb).mono HB.out.size); clear hb)
      | (go_at_call 11; (with_reducible refine (R2.out _).mono ?_); rintro e wb ⟨rfl, hb⟩; have HL2 : Hid (Lies wb w.heap.size 31 ⟨p, q, r, s⟩ ∧ Lies wb (w.heap.size + 1) 31 ⟨p', q', r', s'⟩) := ⟨HL1.out.1.below hb HL1.out.1.lt, HL1.out.2.below hb HL1.out.2.lt⟩; have HT2 : Hid (TabOK wb) := HT1.out.below hb; have HB2 : Hid (Below w.heap.size w wb) := HB1.out.trans (hb.mono HB1.out.size); clear hb)
      | (go_at_call 8; refine (awake_any _ HT2.out).mono ?_; rintro e wc ⟨rfl, hb⟩; have HL3 : Hid (Lies wc w.heap.size 31 ⟨p, q, r, s⟩ ∧ Lies wc (w.heap.size + 1) 31 ⟨p', q', r', s'⟩) := ⟨HL2.out.1.below hb HL2.out.1.lt, HL2.out.2.below hb HL2.out.2.lt⟩; have HB3 : Hid (Below w.heap.size w wc) := HB2.out.trans (hb.mono HB2.out.size); clear hb))
  go_wp2_with fail
  go_ret
  exact ⟨rfl, HB3.out⟩

end Go.Proofs.YtocideolihbnaaaDoor
