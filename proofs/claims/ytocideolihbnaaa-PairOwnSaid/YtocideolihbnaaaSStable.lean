/- The stable sort over a row of pairs. -/
import Derived.Test.YtocideolihbnaaaSMerge
set_option linter.unusedVariables false
set_option linter.unusedSimpArgs false
namespace Go.Proofs.Ytocideolihbnaaa
open Go.RowKit Stab

/-! ### Blocks, each in order -/
structure Blk (lt : Nat → Nat → Prop) (lo hi : Nat) (f : Nat → Nat) : Prop where
  asc : Asc' lt lo hi f
  own : ∀ p, lo ≤ p → p < hi → lo ≤ f p ∧ f p < hi
theorem Blk.congr {lt : Nat → Nat → Prop} {lo hi : Nat} {f g : Nat → Nat} (h : Blk lt lo hi f) (he : ∀ p, lo ≤ p → p < hi → g p = f p) : Blk lt lo hi g :=
  ⟨fun p q h1 h2 h3 => by rw [he p h1 (by omega), he q (by omega) h3]; exact h.asc p q h1 h2 h3, fun p h1 h2 => by rw [he p h1 h2]; exact h.own p h1 h2⟩
theorem Blk.pre {lt : Nat → Nat → Prop} {a m b : Nat} {f : Nat → Nat} (h1 : Blk lt a m f) (h2 : Blk lt m b f) (ha : a ≤ m) (hb : m ≤ b) : Pre lt a m b f :=
  ⟨ha, hb, h1.asc, h2.asc, fun p q h3 h4 h5 h6 => by have := h1.own p h3 h4; have := h2.own q h5 h6; omega⟩
theorem Blk.merged {lt : Nat → Nat → Prop} {a m b : Nat} {f g : Nat → Nat} (h1 : Blk lt a m f) (h2 : Blk lt m b f) (ha : a ≤ m) (hb : m ≤ b) (hp : Post lt a b f g) : Blk lt a b g := by
  refine ⟨hp.2, fun p h3 h4 => ?_⟩
  obtain ⟨q, hq1, hq2, e⟩ := hp.1.fro p h3 h4
  rw [e]
  by_cases hqm : q < m
  · have := h1.own q hq1 hqm; omega
  · have := h2.own q (by omega) hq2; omega
theorem Blk.fresh {lt : Nat → Nat → Prop} {a b : Nat} {f g : Nat → Nat} (hf : ∀ p, a ≤ p → p < b → f p = p) (hp : Post lt a b f g) : Blk lt a b g := by
  refine ⟨hp.2, fun p h3 h4 => ?_⟩
  obtain ⟨q, hq1, hq2, e⟩ := hp.1.fro p h3 h4
  rw [e, hf q hq1 hq2]; omega
inductive Chain (lt : Nat → Nat → Prop) (bs n : Nat) (f : Nat → Nat) : Nat → Prop
  | stop (lo : Nat) (h : n ≤ lo) : Chain lt bs n f lo
  | step (lo : Nat) (h : lo < n) (hb : Blk lt lo (min (lo + bs) n) f) (hc : Chain lt bs n f (lo + bs)) : Chain lt bs n f lo
theorem Chain.congr {lt : Nat → Nat → Prop} {bs n : Nat} {f g : Nat → Nat} {lo : Nat} (h : Chain lt bs n f lo) : (∀ p, lo ≤ p → g p = f p) → Chain lt bs n g lo := by
  induction h with
  | stop lo h => intro _; exact .stop lo h
  | step lo h hb hc ih => intro he; exact .step lo h (hb.congr fun p h1 _ => he p h1) (ih fun p h1 => he p (by omega))
theorem Chain.at_ {lt : Nat → Nat → Prop} {bs n : Nat} {f : Nat → Nat} {lo : Nat} (h : Chain lt bs n f lo) (hlt : lo < n) : Blk lt lo (min (lo + bs) n) f ∧ Chain lt bs n f (lo + bs) := by
  cases h with
  | stop _ h => omega
  | step _ h hb hc => exact ⟨hb, hc⟩
/-- What lies ahead of a place is done. -/
def Pref (lt : Nat → Nat → Prop) (bs n a : Nat) (f : Nat → Nat) : Prop := ∀ g : Nat → Nat, (∀ p, p < a → g p = f p) → Chain lt bs n g a → Chain lt bs n g 0
theorem Pref.zero (lt : Nat → Nat → Prop) (bs n : Nat) (f : Nat → Nat) : Pref lt bs n 0 f := fun g _ h => h
theorem Pref.step {lt : Nat → Nat → Prop} {bs n a b : Nat} {f g : Nat → Nat} (h : Pref lt bs n a f) (hb : b = a + bs) (hbn : b ≤ n) (h0 : 0 < bs) (hm : Mix a b f g) (hblk : Blk lt a b g) : Pref lt bs n b g := by
  intro k hk hc
  refine h k (fun p hp => (hk p (by omega)).trans (hm.out p (by omega))) (.step a (by omega) ?_ (by rw [← hb]; exact hc))
  rw [Nat.min_eq_left (by omega), ← hb]
  exact hblk.congr fun p _ h2 => hk p h2
/-- The last, short one. -/
theorem Pref.last {lt : Nat → Nat → Prop} {bs n a : Nat} {f g : Nat → Nat} (h : Pref lt bs n a f) (hbn : n < a + bs) (hm : Mix a n f g) (hblk : a < n → Blk lt a n g) : Chain lt bs n g 0 := by
  refine h g (fun p hp => hm.out p (by omega)) ?_
  by_cases ha : a < n
  · refine .step a ha ?_ (.stop _ (by omega))
    rw [Nat.min_eq_right (by omega)]
    exact hblk ha
  · exact .stop _ (by omega)

set_option maxRecDepth 100000 in
set_option maxHeartbeats 3200000 in
theorem stable_any (g n c : Nat) (vals : Vals) (key : Nat → Bytes) (w : World) (he : Env g n c vals key w) (h : On g n vals (fun p => p) w w) :
    Calls Try.prog 34 #[.slice (some ⟨g, 0, none⟩) n c, .int .i64 (n : Int), fnC] w fun e W' => e = .returned (.tuple #[]) ∧ ∃ f', On g n vals f' w W' ∧ Post (lt key) 0 n (fun p => p) f' := by
  have HE := Lib.hid he
  have H0 := Lib.hid h
  have hn := he.hn
  have hc := he.hc
  clear he h
  unfold fnC
  go_enter Try.func34, Try.ntmps34
  go_wp2_with fail
  go_loopw [7, 8] (fun u v wr => ∃ (a b : Nat) (f : Nat → Nat), u = .int .i64 (a : Int) ∧ v = .int .i64 (b : Int) ∧ b = a + 20 ∧ a ≤ n ∧ Hid (On g n vals f w wr ∧ Mix 0 n (fun p => p) f ∧ Pref (lt key) 20 n a f ∧ ∀ p, a ≤ p → f p = p)) (fun u v _ => n - (intOf u).toNat)
  case atStart => exact ⟨0, 20, fun p => p, rfl, rfl, by omega, by omega, Lib.hid ⟨H0.out, Mix.refl _ _ _, Pref.zero _ _ _ _, fun _ _ => rfl⟩⟩
  case round =>
    obtain ⟨a, b, f, rfl, rfl, hba, han, hI⟩ := hrel
    have HBA := Lib.hid hba
    have hb2 : b ≤ n + 20 := by omega
    have hb3 : a ≤ b := by omega
    clear hba
    by_cases hlt : b ≤ n
    · have hlt' : (b : Int) ≤ (n : Int) := by omega
      have HR := Lib.hid (insertion_any g n c vals key f a b w wr HE.out hI.out.1 hb3 hlt (fun p q h1 h2 h3 => by rw [hI.out.2.2.2 p h1, hI.out.2.2.2 q (by omega)]; exact h2))
      unfold fnC at HR
      go_wp2_with fail
      refine HR.out.mono ?_
      rintro x w1 ⟨rfl, f', hO, hP⟩
      have HN : Hid (On g n vals f' w w1 ∧ Mix 0 n (fun p => p) f' ∧ Pref (lt key) 20 n b f' ∧ ∀ p, b ≤ p → f' p = p) :=
        ⟨hO, hI.out.2.1.trans (hP.1.wide (Nat.zero_le _) hlt), hI.out.2.2.1.step HBA.out hlt (by omega) hP.1 (Blk.fresh (fun p h1 h2 => hI.out.2.2.2 p h1) hP), fun p hp => by rw [hP.1.out p (by omega)]; exact hI.out.2.2.2 p (by have := HBA.out; omega)⟩
      clear hO hP
      go_wp2_with fail
      go_roundw
      case rel => exact ⟨b, b + 20, f', rfl, by go_num, rfl, hlt, HN⟩
      case measure => have := HBA.out; simp [intOf]; omega
    · have hlt' : ¬ (b : Int) ≤ (n : Int) := by omega
      have HR := Lib.hid (insertion_any g n c vals key f a n w wr HE.out hI.out.1 han (Nat.le_refl _) (fun p q h1 h2 h3 => by rw [hI.out.2.2.2 p h1, hI.out.2.2.2 q (by omega)]; exact h2))
      unfold fnC at HR
      go_wp2_with fail
      refine HR.out.mono ?_
      rintro x w1 ⟨rfl, f', hO, hP⟩
      have HN : Hid (On g n vals f' w w1 ∧ Mix 0 n (fun p => p) f' ∧ Chain (lt key) 20 n f' 0) :=
        ⟨hO, hI.out.2.1.trans (hP.1.wide (Nat.zero_le _) (Nat.le_refl _)), hI.out.2.2.1.last (by have := HBA.out; omega) hP.1 (fun _ => Blk.fresh (fun p h1 h2 => hI.out.2.2.2 p h1) hP)⟩
      clear hO hP
      go_wp2_with fail
      go_loopw [6, 7, 8, 9] (fun u _ _ _ wr => ∃ (bs : Nat) (f : Nat → Nat), u = .int .i64 (bs : Int) ∧ 0 < bs ∧ bs ≤ 200000 ∧ Hid (On g n vals f w wr ∧ Mix 0 n (fun p => p) f ∧ Chain (lt key) bs n f 0)) (fun u _ _ _ _ => n - (intOf u).toNat)
      case atStart => exact ⟨20, f', rfl, by omega, by omega, HN⟩
      case round =>
        obtain ⟨bs, fb, rfl, hbs, hbs2, hC⟩ := hrel
        by_cases hlt2 : bs < n
        · have hlt2' : (bs : Int) < (n : Int) := by omega
          go_wp2_with fail
          go_loopw [7, 8] (fun u v wr => ∃ (a b : Nat) (f : Nat → Nat), u = .int .i64 (a : Int) ∧ v = .int .i64 (b : Int) ∧ Hid (b = a + 2 * bs) ∧ b ≤ n + 2 * bs ∧ a ≤ n ∧ Hid (On g n vals f w wr ∧ Mix 0 n (fun p => p) f ∧ Pref (lt key) (2 * bs) n a f ∧ Chain (lt key) bs n f a)) (fun u v _ => n - (intOf u).toNat)
          case atStart => exact ⟨0, 2 * bs, fb, rfl, by go_num, Lib.hid (by omega), by omega, by omega, Lib.hid ⟨hC.out.1, hC.out.2.1, Pref.zero _ _ _ _, hC.out.2.2⟩⟩
          case round =>
            obtain ⟨a2, b2, f2, rfl, rfl, hba2, hb4, ha4, hJ⟩ := hrel
            obtain ⟨m2, hm2⟩ : ∃ m2, a2 + bs = m2 := ⟨_, rfl⟩
            have HM2 := Lib.hid hm2
            have hm2z : (a2 : Int) + (bs : Int) = (m2 : Int) := by omega
            clear hm2
            by_cases hlt3 : b2 ≤ n
            · have hlt3' : (b2 : Int) ≤ (n : Int) := by omega
              have hk1 := hJ.out.2.2.2.at_ (by have := hba2.out; omega)
              rw [HM2.out, Nat.min_eq_left (by have := hba2.out; have := HM2.out; omega)] at hk1
              have hk2 := hk1.2.at_ (by have := hba2.out; have := HM2.out; omega)
              rw [show m2 + bs = b2 by have := hba2.out; have := HM2.out; omega, Nat.min_eq_left hlt3] at hk2
              have HK := Lib.hid (And.intro hk1.1 hk2)
              clear hk1 hk2
              have HO3 := Lib.hid (show a2 < m2 ∧ m2 < b2 by have := hba2.out; have := HM2.out; omega)
              have HR3 := Lib.hid (symMerge_any g n c vals key w HE.out (b2 - a2 + 1) f2 a2 m2 b2 wr (by omega) hJ.out.1 (HK.out.1.pre HK.out.2.1 (by have := HO3.out; omega) (by have := HO3.out; omega)) HO3.out.1 HO3.out.2 hlt3)
              unfold fnC at HR3
              go_wp2_with fail
              refine HR3.out.mono ?_
              rintro x w2 ⟨rfl, f3, hO, hP⟩
              have HN3 : Hid (On g n vals f3 w w2 ∧ Mix 0 n (fun p => p) f3 ∧ Pref (lt key) (2 * bs) n b2 f3 ∧ Chain (lt key) bs n f3 b2) :=
                ⟨hO, hJ.out.2.1.trans (hP.1.wide (Nat.zero_le _) hlt3), hJ.out.2.2.1.step hba2.out hlt3 (by omega) hP.1 (HK.out.1.merged HK.out.2.1 (by have := HO3.out; omega) (by have := HO3.out; omega) hP), HK.out.2.2.congr fun p hp => hP.1.out p (by omega)⟩
              clear hO hP
              go_wp2_with fail
              go_roundw
              case rel => exact ⟨b2, b2 + 2 * bs, f3, rfl, by go_num, Lib.hid rfl, by omega, hlt3, HN3⟩
              case measure => have := hba2.out; simp [intOf]; omega
            · have hlt3' : ¬ (b2 : Int) ≤ (n : Int) := by omega
              by_cases hmn : m2 < n
              · have hmn' : (m2 : Int) < (n : Int) := by omega
                have hk1 := hJ.out.2.2.2.at_ (by have := HM2.out; omega)
                rw [HM2.out, Nat.min_eq_left (by omega)] at hk1
                have hk2 := hk1.2.at_ hmn
                rw [Nat.min_eq_right (by have := hba2.out; have := HM2.out; omega)] at hk2
                have HK := Lib.hid (And.intro hk1.1 hk2.1)
                clear hk1 hk2
                have HO3 := Lib.hid (show a2 < m2 by have := HM2.out; omega)
                have HR3 := Lib.hid (symMerge_any g n c vals key w HE.out (n - a2 + 1) f2 a2 m2 n wr (by omega) hJ.out.1 (HK.out.1.pre HK.out.2 (by have := HO3.out; omega) (by omega)) HO3.out hmn (Nat.le_refl _))
                unfold fnC at HR3
                go_wp2_with fail
                refine HR3.out.mono ?_
                rintro x w2 ⟨rfl, f3, hO, hP⟩
                have HN3 : Hid (On g n vals f3 w w2 ∧ Mix 0 n (fun p => p) f3 ∧ Chain (lt key) (bs * 2) n f3 0) :=
                  ⟨hO, hJ.out.2.1.trans (hP.1.wide (Nat.zero_le _) (Nat.le_refl _)), by rw [Nat.mul_comm bs 2]; exact hJ.out.2.2.1.last (by have := hba2.out; omega) hP.1 (fun _ => HK.out.1.merged HK.out.2 (by have := HO3.out; omega) (by omega) hP)⟩
                clear hO hP
                go_wp2_with fail
                go_roundw
                case rel => exact ⟨bs * 2, f3, by go_num, by omega, by omega, HN3⟩
                case measure => simp [intOf]; omega
              · have hmn' : ¬ (m2 : Int) < (n : Int) := by omega
                have HN3 : Hid (On g n vals f2 w wr ∧ Mix 0 n (fun p => p) f2 ∧ Chain (lt key) (bs * 2) n f2 0) := by
                  refine ⟨hJ.out.1, hJ.out.2.1, ?_⟩
                  rw [Nat.mul_comm bs 2]
                  refine hJ.out.2.2.1.last (by have := hba2.out; omega) (Mix.refl _ _ _) (fun han => ?_)
                  have hk1 := (hJ.out.2.2.2.at_ han).1
                  rw [HM2.out, Nat.min_eq_right (by omega)] at hk1
                  exact hk1
                go_wp2_with fail
                go_roundw
                case rel => exact ⟨bs * 2, f2, by go_num, by omega, by omega, HN3⟩
                case measure => simp [intOf]; omega
        · have hlt2' : ¬ (bs : Int) < (n : Int) := by omega
          have HF : Hid (Post (lt key) 0 n (fun p => p) fb) := by
            refine ⟨hC.out.2.1, ?_⟩
            by_cases h0 : 0 < n
            · have := (hC.out.2.2.at_ h0).1
              rw [Nat.min_eq_right (by omega)] at this
              exact this.asc
            · intro p q h1 h2 h3; omega
          go_wp2_with fail
          exact bodyPost_end (results_none rfl _ _ _) rfl ⟨rfl, fb, hC.out.1, HF.out⟩

set_option maxHeartbeats 1600000 in
theorem sortStable_any (g n c : Nat) (vals : Vals) (key : Nat → Bytes) (w : World) (he : Env g n c vals key w) (h : On g n vals (fun p => p) w w) :
    Calls Try.prog 24 #[.slice (some ⟨g, 0, none⟩) n c, fnC] w fun e W' => e = .returned (.tuple #[]) ∧ ∃ f', On g n vals f' w W' ∧ Post (lt key) 0 n (fun p => p) f' := by
  have HR := Lib.hid (stable_any g n c vals key w he h)
  unfold fnC at HR
  unfold fnC
  clear he h
  go_enter Try.func24, Try.ntmps24
  go_wp2_with fail
  refine HR.out.mono ?_
  rintro x w2 ⟨rfl, f', hO, hP⟩
  have HO := Lib.hid (And.intro hO hP)
  clear hO hP
  go_wp2_with fail
  exact bodyPost_end (results_none rfl _ _ _) rfl ⟨rfl, f', HO.out⟩

end Go.Proofs.Ytocideolihbnaaa
