/- The plain law of a trie: what is put is there, what is deleted isn't, and nothing else turns. No program in sight. -/
import Derived.Test.YtphjaebkcimklaaGreatDoorTPlain
set_option linter.unusedVariables false
set_option linter.unusedSimpArgs false
namespace Go.Proofs.YtphjaebkcimklaaGreatDoor
open Go.RowKit

theorem getM_ins (k x key : Bytes) : ∀ M : Pairs, getM (insL k x M) key = if k = key then some x else getM M key
  | [] => by simp [insL, getM]
  | q :: M => by
    have ih := getM_ins k x key M
    unfold insL
    by_cases h1 : cmp q.1 k = -1
    · rw [if_pos h1]
      show (if q.1 = key then some q.2 else getM (insL k x M) key) = if k = key then some x else (if q.1 = key then some q.2 else getM M key)
      rw [ih]
      by_cases h2 : q.1 = key
      · rw [if_pos h2, if_neg (fun e => cmp_ne h1 (h2.trans e.symm)), if_pos h2]
      · rw [if_neg h2, if_neg h2]
    · rw [if_neg h1]
      by_cases h2 : q.1 = k
      · rw [if_pos h2]
        show (if k = key then some x else getM M key) = if k = key then some x else (if q.1 = key then some q.2 else getM M key)
        rw [h2]
        by_cases h3 : k = key
        · rw [if_pos h3, if_pos h3]
        · rw [if_neg h3, if_neg h3, if_neg h3]
      · rw [if_neg h2]; rfl
theorem getM_without (key key' : Bytes) : ∀ M : Pairs, getM (withoutM M key) key' = if key = key' then none else getM M key'
  | [] => by simp [withoutM, getM]
  | q :: M => by
    have ih := getM_without key key' M
    unfold withoutM at ih ⊢
    rw [List.filter_cons]
    by_cases h : q.1 = key
    · rw [if_neg (by simp [h]), ih]
      show _ = if key = key' then none else (if q.1 = key' then some q.2 else getM M key')
      rw [h]
      by_cases h2 : key = key'
      · rw [if_pos h2, if_pos h2]
      · rw [if_neg h2, if_neg h2, if_neg h2]
    · rw [if_pos (by simp [h])]
      show (if q.1 = key' then some q.2 else getM (List.filter _ M) key') = if key = key' then none else (if q.1 = key' then some q.2 else getM M key')
      rw [ih]
      by_cases h2 : q.1 = key'
      · rw [if_pos h2, if_neg (fun e => h (by rw [h2, e])), if_pos h2]
      · rw [if_neg h2, if_neg h2]
theorem getM_mem {key x : Bytes} : ∀ {M : Pairs}, getM M key = some x → (key, x) ∈ M
  | [], h => by simp [getM] at h
  | q :: M, h => by
    have h' : (if q.1 = key then some q.2 else getM M key) = some x := h
    by_cases e : q.1 = key
    · rw [if_pos e] at h'
      injection h' with h'
      subst e; subst h'
      exact List.mem_cons_self
    · rw [if_neg e] at h'
      exact List.mem_cons_of_mem _ (getM_mem h')
theorem getM_isSome {key : Bytes} : ∀ {M : Pairs}, (∃ p ∈ M, p.1 = key) → (getM M key).isSome = true
  | [], h => by simp at h
  | q :: M, ⟨p, hp, e⟩ => by
    show (if q.1 = key then some q.2 else getM M key).isSome = true
    by_cases e2 : q.1 = key
    · rw [if_pos e2]; rfl
    · rw [if_neg e2]
      rcases List.mem_cons.1 hp with rfl | hp
      · exact absurd e e2
      · exact getM_isSome ⟨p, hp, e⟩
theorem ins_len_ge (k x : Bytes) : ∀ M : Pairs, M.length ≤ (insL k x M).length
  | [] => by simp
  | q :: M => by
    unfold insL
    have := ins_len_ge k x M
    split
    · simp; omega
    · split <;> simp
theorem ins_pos (k x : Bytes) (M : Pairs) : 1 ≤ (insL k x M).length := by
  cases M with
  | nil => simp [insL]
  | cons q M => have := ins_len_ge k x (q :: M); simp at this; omega

/-- A trie. -/
inductive TT where
  | none
  | leaf (h : Nat) (k x : Bytes)
  | bucket (h : Nat) (L : Pairs)
  | branch (kid : Nat → TT)

namespace TT

/-- A chunk of a hash: five bits. -/
def chunk (h l : Nat) : Nat := h / 2 ^ (5 * min l 12) % 32
theorem chunk_lt (h l : Nat) : chunk h l < 32 := Nat.mod_lt _ (by decide)

theorem chunks_from (g h : Nat) : ∀ n, n ≤ 13 → (∀ i, i < n → chunk g i = chunk h i) → g % 2 ^ (5 * n) = h % 2 ^ (5 * n)
  | 0, _, _ => by simp [Nat.mod_one]
  | n + 1, hn, hc => by
    have ih := chunks_from g h n (by omega) fun i hi => hc i (by omega)
    have h1 := hc n (by omega)
    unfold chunk at h1
    rw [Nat.min_eq_left (by omega)] at h1
    have e : 2 ^ (5 * (n + 1)) = 2 ^ (5 * n) * 32 := by rw [show 5 * (n + 1) = 5 * n + 5 by omega, Nat.pow_add]
    rw [e, Nat.mod_mul, Nat.mod_mul, ih, h1]
/-- Two hashes that have all chunks alike are one. -/
theorem chunks_ext (g h : Nat) (hg : g < 2 ^ 64) (hh : h < 2 ^ 64) (hc : ∀ i, i < 13 → chunk g i = chunk h i) : g = h := by
  have := chunks_from g h 13 (by omega) hc
  rwa [Nat.mod_eq_of_lt (Nat.lt_of_lt_of_le hg (Nat.pow_le_pow_right (by decide) (by decide))), Nat.mod_eq_of_lt (Nat.lt_of_lt_of_le hh (Nat.pow_le_pow_right (by decide) (by decide)))] at this

/-- What a key has, on its hash's way. -/
def look (key : Bytes) (h : Nat) : TT → Nat → Option Bytes
  | .none, _ => Option.none
  | .leaf _ k x, _ => if k = key then some x else Option.none
  | .bucket _ L, _ => getM L key
  | .branch kid, l => look key h (kid (chunk h l)) (l + 1)

/-- All hashes of a trie have a chunk at a level. -/
def under (l c : Nat) : TT → Prop
  | .none => True
  | .leaf g _ _ => chunk g l = c
  | .bucket g _ => chunk g l = c
  | .branch kid => ∀ c', under l c (kid c')

def isNone : TT → Bool
  | .none => true
  | _ => false
def isBranch : TT → Bool
  | .branch _ => true
  | _ => false

/-- Keys that may be: N pairs at most in one bucket. -/
def Fits (hs : Bytes → Nat) (N : Nat) : TT → Nat → Prop
  | .none, _ => True
  | .leaf g k _, _ => g = hs k
  | .bucket g L, _ => (∀ p ∈ L, hs p.1 = g) ∧ 2 ≤ L.length ∧ Asc L
  | .branch kid, l => l ≤ 12 ∧ (∀ c, 32 ≤ c → kid c = .none) ∧ (∃ c, isNone (kid c) = false) ∧ ∀ c, Fits hs N (kid c) (l + 1) ∧ under l c (kid c)
/-- No bucket has more. -/
def Small (N : Nat) : TT → Prop
  | .none => True
  | .leaf _ _ _ => True
  | .bucket _ L => L.length ≤ N
  | .branch kid => ∀ c, Small N (kid c)

/-- Two that have unlike hashes made one. -/
def fork (a : TT) (g : Nat) (b : TT) (h : Nat) : Nat → Nat → TT
  | 0, _ => .none
  | n + 1, l => if chunk g l = chunk h l then .branch (fun c => if c = chunk g l then fork a g b h n (l + 1) else .none)
      else .branch (fun c => if c = chunk g l then a else if c = chunk h l then b else .none)

def put (key v : Bytes) (h : Nat) : TT → Nat → TT
  | .none, _ => .leaf h key v
  | .leaf g k x, l => if g = h then (if k = key then .leaf h key v else .bucket h (insL key v [(k, x)])) else fork (.leaf g k x) g (.leaf h key v) h (13 - l) l
  | .bucket g L, l => if g = h then .bucket h (insL key v L) else fork (.bucket g L) g (.leaf h key v) h (13 - l) l
  | .branch kid, l => .branch (fun c => if c = chunk h l then put key v h (kid c) (l + 1) else kid c)

/-- A leaf or a bucket of pairs of one hash. -/
def buck (g : Nat) : Pairs → TT
  | [] => .none
  | [p] => .leaf g p.1 p.2
  | p :: q :: L => .bucket g (p :: q :: L)

theorem look_under {hs : Bytes → Nat} {N : Nat} {key : Bytes} : ∀ (t : TT) (l : Nat), Fits hs N t l → (look key (hs key) t l).isSome = true → ∀ i c, under i c t → chunk (hs key) i = c
  | .none, _, _, h, _, _, _ => by simp [look] at h
  | .leaf g k x, _, hf, h, i, c, hu => by
    have e : k = key := by
      by_cases e : k = key
      · exact e
      · simp [look, e] at h
    subst e
    have : g = hs k := hf
    subst this
    exact hu
  | .bucket g L, _, hf, h, i, c, hu => by
    obtain ⟨x, hx⟩ := Option.isSome_iff_exists.1 h
    rw [hf.1 _ (getM_mem hx)]
    exact hu
  | .branch kid, l, hf, h, i, c, hu => look_under (kid (chunk (hs key) l)) (l + 1) (hf.2.2.2 _).1 h i c (hu _)

theorem look_fork {hs : Bytes → Nat} {key key' v : Bytes} (a : TT) (g : Nat) (ha : ∀ l, look key' (hs key') a l = look key' (hs key') a 0) (hag : (look key' (hs key') a 0).isSome = true → hs key' = g) (hne : g ≠ hs key) (hg : g < 2 ^ 64) (hk : hs key < 2 ^ 64) :
    ∀ (n l : Nat), n + l = 13 → (∀ i, i < l → chunk g i = chunk (hs key) i) → look key' (hs key') (fork a g (.leaf (hs key) key v) (hs key) n l) l = if key = key' then some v else look key' (hs key') a 0
  | 0, l, hn, hc => absurd (chunks_ext g (hs key) hg hk fun i hi => hc i (by omega)) hne
  | n + 1, l, hn, hc => by
    unfold fork
    by_cases e : chunk g l = chunk (hs key) l
    · rw [if_pos e]
      simp only [look]
      by_cases e2 : chunk (hs key') l = chunk g l
      · rw [if_pos e2]
        refine look_fork a g ha hag hne hg hk n (l + 1) (by omega) fun i hi => ?_
        rcases Nat.lt_succ_iff_lt_or_eq.1 hi with h | rfl
        · exact hc i h
        · exact e
      · rw [if_neg e2]
        have h1 : ¬ key = key' := fun h => e2 (by rw [← h, e])
        have h2 : look key' (hs key') a 0 = Option.none := by
          cases h : look key' (hs key') a 0 with
          | none => rfl
          | some x => exact absurd (by rw [hag (by rw [h]; rfl)]) e2
        simp [look, h1, h2]
    · rw [if_neg e]
      simp only [look]
      by_cases e2 : chunk (hs key') l = chunk g l
      · rw [if_pos e2, ha]
        have h1 : ¬ key = key' := fun h => e (by rw [h, e2])
        simp [h1]
      · rw [if_neg e2]
        have h2 : look key' (hs key') a 0 = Option.none := by
          cases h : look key' (hs key') a 0 with
          | none => rfl
          | some x => exact absurd (by rw [hag (by rw [h]; rfl)]) e2
        by_cases e3 : chunk (hs key') l = chunk (hs key) l
        · rw [if_pos e3]; simp [look, h2]
        · rw [if_neg e3]
          have h1 : ¬ key = key' := fun h => e3 (by rw [h])
          simp [look, h1, h2]

/-- WHAT IS PUT IS THERE, and nothing else turns. -/
theorem look_put {hs : Bytes → Nat} {N : Nat} {key key' v : Bytes} (hb : ∀ k, hs k < 2 ^ 64) : ∀ (t : TT) (l : Nat), Fits hs N t l → (∀ i, i < l → under i (chunk (hs key) i) t) → l ≤ 13 →
    look key' (hs key') (put key v (hs key) t l) l = if key = key' then some v else look key' (hs key') t l
  | .none, l, _, _, _ => by simp [put, look]
  | .leaf g k x, l, hf, hu, hl => by
    have hg : g = hs k := hf
    unfold put
    by_cases e : g = hs key
    · rw [if_pos e]
      by_cases e2 : k = key
      · rw [if_pos e2]; subst e2; simp only [look]
        by_cases h1 : k = key'
        · rw [if_pos h1, if_pos h1]
        · rw [if_neg h1, if_neg h1, if_neg h1]
      · rw [if_neg e2]
        simp only [look]
        rw [getM_ins]
        rfl
    · rw [if_neg e]
      rw [look_fork (.leaf g k x) g (fun _ => rfl) (fun h => by
        by_cases e : k = key'
        · rw [hg, e]
        · simp [look, e] at h) e (hg ▸ hb k) (hb key) (13 - l) l (by omega) fun i hi => hu i hi]
      rfl
  | .bucket g L, l, hf, hu, hl => by
    have hg : g < 2 ^ 64 := by
      cases L with
      | nil => have := hf.2.1; simp at this
      | cons p L => rw [← hf.1 p (by simp)]; exact hb p.1
    unfold put
    by_cases e : g = hs key
    · rw [if_pos e]
      simp only [look]
      rw [getM_ins]
    · rw [if_neg e]
      rw [look_fork (.bucket g L) g (fun _ => rfl) (fun h => by
        obtain ⟨x, hx⟩ := Option.isSome_iff_exists.1 h
        exact hf.1 _ (getM_mem hx)) e hg (hb key) (13 - l) l (by omega) fun i hi => hu i hi]
      rfl
  | .branch kid, l, hf, hu, hl => by
    unfold put
    simp only [look]
    by_cases e : chunk (hs key') l = chunk (hs key) l
    · rw [if_pos e]
      rw [e]
      have := look_put (key := key) (key' := key') (v := v) hb (kid (chunk (hs key) l)) (l + 1) (hf.2.2.2 _).1 (fun i hi => by
        rcases Nat.lt_succ_iff_lt_or_eq.1 hi with h | rfl
        · exact hu i h _
        · exact (hf.2.2.2 _).2) (by have := hf.1; omega)
      exact this
    · rw [if_neg e]
      have h1 : ¬ key = key' := fun h => e (by rw [h])
      rw [if_neg h1]

theorem under_fork {i c : Nat} {a b : TT} {g h : Nat} (ha : under i c a) (hb : under i c b) : ∀ n l, under i c (fork a g b h n l)
  | 0, _ => trivial
  | n + 1, l => by
    unfold fork
    split
    · intro c'
      show under i c (if _ then _ else _)
      split
      · exact under_fork ha hb n (l + 1)
      · trivial
    · intro c'
      show under i c (if _ then _ else _)
      split
      · exact ha
      · split
        · exact hb
        · trivial
theorem under_put {key v : Bytes} {h i c : Nat} (hc : chunk h i = c) : ∀ (t : TT) (l : Nat), under i c t → under i c (put key v h t l)
  | .none, _, _ => hc
  | .leaf g k x, l, hu => by
    unfold put
    split
    · split
      · exact hc
      · exact hc
    · exact under_fork hu (show under i c (.leaf h key v) from hc) _ _
  | .bucket g L, l, hu => by
    unfold put
    split
    · exact hc
    · exact under_fork hu (show under i c (.leaf h key v) from hc) _ _
  | .branch kid, l, hu => by
    unfold put
    intro c'
    show under i c (if _ then _ else _)
    split
    · exact under_put hc _ _ (hu c')
    · exact hu c'

theorem small_fork {N : Nat} {a b : TT} {g h : Nat} (ha : Small N a) (hb : Small N b) : ∀ n l, Small N (fork a g b h n l)
  | 0, _ => trivial
  | n + 1, l => by
    unfold fork
    split
    · intro c'
      show Small N (if _ then _ else _)
      split
      · exact small_fork ha hb n (l + 1)
      · trivial
    · intro c'
      show Small N (if _ then _ else _)
      split
      · exact ha
      · split
        · exact hb
        · trivial
theorem ins_len_le (k x : Bytes) : ∀ M : Pairs, (insL k x M).length ≤ M.length + 1
  | [] => by simp [insL]
  | q :: M => by
    unfold insL
    have := ins_len_le k x M
    split
    · simp; omega
    · split <;> simp
theorem small_put {key v : Bytes} {h N : Nat} (hN : 1 ≤ N) : ∀ (t : TT) (l : Nat), Small N t → Small (N + 1) (put key v h t l)
  | .none, _, _ => trivial
  | .leaf g k x, l, hu => by
    unfold put
    split
    · split
      · trivial
      · show (insL key v [(k, x)]).length ≤ N + 1
        have := ins_len_le key v [(k, x)]
        simp at this; omega
    · exact small_fork (show Small (N + 1) (.leaf g k x) from trivial) (show Small (N + 1) (.leaf h key v) from trivial) _ _
  | .bucket g L, l, hu => by
    have hu' : L.length ≤ N := hu
    unfold put
    split
    · show (insL key v L).length ≤ N + 1
      have := ins_len_le key v L
      omega
    · exact small_fork (show Small (N + 1) (.bucket g L) from Nat.le_succ_of_le hu') (show Small (N + 1) (.leaf h key v) from trivial) _ _
  | .branch kid, l, hu => by
    unfold put
    intro c'
    show Small (N + 1) (if _ then _ else _)
    split
    · exact small_put hN _ _ (hu c')
    · exact small_mono (by omega) _ (hu c')
where small_mono {N N' : Nat} (h : N ≤ N') : ∀ t : TT, Small N t → Small N' t
  | .none, _ => trivial
  | .leaf _ _ _, _ => trivial
  | .bucket _ L, hu => Nat.le_trans hu h
  | .branch kid, hu => fun c => small_mono h (kid c) (hu c)

theorem fork_some (a : TT) (g : Nat) (b : TT) (h n l : Nat) (hn : 0 < n) (ha : isNone a = false) : isNone (fork a g b h n l) = false := by
  cases n with
  | zero => omega
  | succ n => unfold fork; split <;> rfl
theorem put_some (key v : Bytes) (h : Nat) (t : TT) (l : Nat) (hl : l ≤ 12 ∨ isNone t = true ∨ isBranch t = true) : isNone (put key v h t l) = false := by
  cases t with
  | none => rfl
  | leaf g k x =>
    unfold put
    split
    · split <;> rfl
    · exact fork_some _ _ _ _ _ _ (by simp [isNone, isBranch] at hl; omega) rfl
  | bucket g L =>
    unfold put
    split
    · rfl
    · exact fork_some _ _ _ _ _ _ (by simp [isNone, isBranch] at hl; omega) rfl
  | branch kid => rfl

theorem fits_level {hs : Bytes → Nat} {N : Nat} : ∀ (t : TT) (l l' : Nat), isBranch t = false → Fits hs N t l → Fits hs N t l'
  | .none, _, _, _, _ => trivial
  | .leaf g k x, _, _, _, h => h
  | .bucket g L, _, _, _, h => h
  | .branch kid, _, _, hb, _ => by simp [isBranch] at hb

theorem fits_fork {hs : Bytes → Nat} {N : Nat} (a : TT) (g : Nat) (b : TT) (h : Nat) (hne : g ≠ h) (hg : g < 2 ^ 64) (hh : h < 2 ^ 64) (ha : ∀ l, Fits hs N a l) (hb : ∀ l, Fits hs N b l) (ua : ∀ l, under l (chunk g l) a) (ub : ∀ l, under l (chunk h l) b) (na : isNone a = false) (nb : isNone b = false) :
    ∀ n l, n + l = 13 → (∀ i, i < l → chunk g i = chunk h i) → Fits hs N (fork a g b h n l) l
  | 0, l, hn, hc => absurd (chunks_ext g h hg hh fun i hi => hc i (by omega)) hne
  | n + 1, l, hn, hc => by
    unfold fork
    by_cases e : chunk g l = chunk h l
    · rw [if_pos e]
      have hc' : ∀ i, i < l + 1 → chunk g i = chunk h i := fun i hi => by
        rcases Nat.lt_succ_iff_lt_or_eq.1 hi with h | rfl
        · exact hc i h
        · exact e
      have hn0 : 0 < n := by
        rcases Nat.eq_zero_or_pos n with h0 | h0
        · exact absurd (chunks_ext g h hg hh fun i hi => hc' i (by omega)) hne
        · exact h0
      refine ⟨by omega, fun c hc => ?_, ⟨chunk g l, ?_⟩, fun c => ?_⟩
      · have := chunk_lt g l
        show (if _ then _ else _) = _
        rw [if_neg (by omega)]
      · show isNone (if _ then _ else _) = false
        rw [if_pos rfl]
        exact fork_some _ _ _ _ _ _ hn0 na
      · show Fits hs N (if _ then _ else _) (l + 1) ∧ under l c (if _ then _ else _)
        by_cases ec : c = chunk g l
        · rw [if_pos ec]
          subst ec
          exact ⟨fits_fork a g b h hne hg hh ha hb ua ub na nb n (l + 1) (by omega) hc', under_fork (ua l) (by rw [e]; exact ub l) _ _⟩
        · rw [if_neg ec]; exact ⟨trivial, trivial⟩
    · rw [if_neg e]
      refine ⟨by omega, fun c hc => ?_, ⟨chunk g l, ?_⟩, fun c => ?_⟩
      · have h1 := chunk_lt g l
        have h2 := chunk_lt h l
        show (if _ then _ else _) = _
        rw [if_neg (by omega), if_neg (by omega)]
      · show isNone (if _ then _ else _) = false
        rw [if_pos rfl]
        exact na
      · show Fits hs N (if _ then _ else _) (l + 1) ∧ under l c (if _ then _ else _)
        by_cases ec : c = chunk g l
        · rw [if_pos ec]; subst ec; exact ⟨ha _, ua l⟩
        · rw [if_neg ec]
          by_cases ed : c = chunk h l
          · rw [if_pos ed]; subst ed; exact ⟨hb _, ub l⟩
          · rw [if_neg ed]; exact ⟨trivial, trivial⟩

theorem fits_put {hs : Bytes → Nat} {N : Nat} {key v : Bytes} (hb : ∀ k, hs k < 2 ^ 64) : ∀ (t : TT) (l : Nat), Fits hs N t l → (∀ i, i < l → under i (chunk (hs key) i) t) → l ≤ 13 → Fits hs N (put key v (hs key) t l) l
  | .none, _, _, _, _ => rfl
  | .leaf g k x, l, hf, hu, hl => by
    have hg : g = hs k := hf
    unfold put
    by_cases e : g = hs key
    · rw [if_pos e]
      by_cases e2 : k = key
      · rw [if_pos e2]; exact rfl
      · rw [if_neg e2]
        refine ⟨fun q hq => ?_, ?_, ins_asc _ _ _ (List.pairwise_cons.2 ⟨by simp, List.Pairwise.nil⟩)⟩
        · rcases ins_mem _ _ _ _ hq with rfl | hq
          · rfl
          · rw [List.mem_singleton.1 hq, ← hg, e]
        · unfold insL
          split
          · have := ins_pos key v []
            simp; omega
          · first | simp | (rw [if_neg e2]; simp)
    · rw [if_neg e]
      exact fits_fork (.leaf g k x) g (.leaf (hs key) key v) (hs key) e (hg ▸ hb k) (hb key) (fun _ => hf) (fun _ => (rfl : hs key = hs key)) (fun l => (rfl : chunk g l = chunk g l)) (fun l => (rfl : chunk (hs key) l = chunk (hs key) l)) rfl rfl _ _ (by omega) fun i hi => hu i hi
  | .bucket g L, l, hf, hu, hl => by
    have hg : g < 2 ^ 64 := by
      cases L with
      | nil => have := hf.2.1; simp at this
      | cons p L => rw [← hf.1 p (by simp)]; exact hb p.1
    unfold put
    by_cases e : g = hs key
    · rw [if_pos e]
      subst e
      refine ⟨fun q hq => ?_, Nat.le_trans hf.2.1 (ins_len_ge _ _ _), ins_asc _ _ _ hf.2.2⟩
      rcases ins_mem _ _ _ _ hq with rfl | hq
      · rfl
      · exact hf.1 q hq
    · rw [if_neg e]
      exact fits_fork (.bucket g L) g (.leaf (hs key) key v) (hs key) e hg (hb key) (fun _ => hf) (fun _ => (rfl : hs key = hs key)) (fun l => (rfl : chunk g l = chunk g l)) (fun l => (rfl : chunk (hs key) l = chunk (hs key) l)) rfl rfl _ _ (by omega) fun i hi => hu i hi
  | .branch kid, l, hf, hu, hl => by
    unfold put
    have hl12 := hf.1
    have hkid := hf.2.2.2 (chunk (hs key) l)
    have hup : ∀ i, i < l + 1 → under i (chunk (hs key) i) (kid (chunk (hs key) l)) := fun i hi => by
      rcases Nat.lt_succ_iff_lt_or_eq.1 hi with h | rfl
      · exact hu i h _
      · exact hkid.2
    refine ⟨hl12, fun c hc => ?_, ?_, fun c => ?_⟩
    · have := chunk_lt (hs key) l
      show (if _ then _ else _) = _
      rw [if_neg (by omega)]
      exact hf.2.1 c hc
    · obtain ⟨c, hc⟩ := hf.2.2.1
      by_cases e : c = chunk (hs key) l
      · refine ⟨c, ?_⟩
        show isNone (if _ then _ else _) = false
        subst e
        rw [if_pos rfl]
        have hz := look_put (key := key) (key' := key) (v := v) hb (kid (chunk (hs key) l)) (l + 1) hkid.1 hup (by omega)
        cases hp : put key v (hs key) (kid (chunk (hs key) l)) (l + 1) with
        | none => rw [hp] at hz; simp [look] at hz
        | leaf _ _ _ => rfl
        | bucket _ _ => rfl
        | branch _ => rfl
      · refine ⟨c, ?_⟩
        show isNone (if _ then _ else _) = false
        rw [if_neg e]
        exact hc
    · show Fits hs N (if _ then _ else _) (l + 1) ∧ under l c (if _ then _ else _)
      by_cases e : c = chunk (hs key) l
      · rw [if_pos e]
        subst e
        exact ⟨fits_put hb _ (l + 1) hkid.1 hup (by omega), under_put rfl _ _ hkid.2⟩
      · rw [if_neg e]; exact hf.2.2.2 c

/-! ### Deleting -/
def someKids (kid : Nat → TT) : List Nat := (List.range 32).filter fun c => !isNone (kid c)
def collapse (kid : Nat → TT) : TT :=
  match someKids kid with
  | [] => .none
  | [c] => if isBranch (kid c) then .branch kid else kid c
  | _ => .branch kid
def del (key : Bytes) (h : Nat) : TT → Nat → TT × Bool
  | .none, _ => (.none, false)
  | .leaf g k x, _ => if g = h ∧ k = key then (.none, true) else (.leaf g k x, false)
  | .bucket g L, _ => if g = h ∧ (getM L key).isSome = true then (buck g (withoutM L key), true) else (.bucket g L, false)
  | .branch kid, l =>
    if (del key h (kid (chunk h l)) (l + 1)).2 = true then (collapse fun c => if c = chunk h l then (del key h (kid (chunk h l)) (l + 1)).1 else kid c, true) else (.branch kid, false)

theorem look_flat (key : Bytes) (h : Nat) (t : TT) (l l' : Nat) (hb : isBranch t = false) : look key h t l = look key h t l' := by
  cases t <;> first | rfl | simp [isBranch] at hb
theorem someKids_mem {kid : Nat → TT} {c : Nat} : c ∈ someKids kid ↔ c < 32 ∧ isNone (kid c) = false := by simp [someKids]
theorem look_collapse {hs : Bytes → Nat} {N : Nat} {key : Bytes} (kid : Nat → TT) (l : Nat) (hf : ∀ c, Fits hs N (kid c) (l + 1) ∧ under l c (kid c)) : look key (hs key) (collapse kid) l = look key (hs key) (kid (chunk (hs key) l)) (l + 1) := by
  have hn : ∀ c, c < 32 → c ∉ someKids kid → kid c = .none := fun c hc h => by
    cases hk : kid c with
    | none => rfl
    | _ => exact absurd (someKids_mem.2 ⟨hc, by rw [hk]; rfl⟩) h
  unfold collapse
  split
  · rename_i e
    rw [hn _ (chunk_lt _ _) (by rw [e]; simp)]
    rfl
  · rename_i c e
    by_cases hb : isBranch (kid c) = true
    · rw [if_pos hb]; rfl
    · rw [if_neg hb]
      have hb' : isBranch (kid c) = false := by simpa using hb
      by_cases hc : chunk (hs key) l = c
      · rw [hc]; exact look_flat _ _ _ _ _ hb'
      · rw [hn _ (chunk_lt _ _) (by rw [e]; simpa using hc)]
        cases hl : look key (hs key) (kid c) l with
        | none => rfl
        | some x => exact absurd (look_under (kid c) l (fits_level _ _ _ hb' (hf c).1) (by rw [hl]; rfl) l c (hf c).2) hc
  · rfl
theorem look_buck {key : Bytes} {h g : Nat} {L : Pairs} {l : Nat} : look key h (buck g L) l = getM L key := by
  match L with
  | [] => rfl
  | [p] => rfl
  | _ :: _ :: _ => rfl

/-- WHAT IS DELETED IS GONE, nothing else turns, and it is told whether it was there. -/
theorem look_del {hs : Bytes → Nat} {N : Nat} {key : Bytes} : ∀ (t : TT) (l : Nat), Fits hs N t l → (del key (hs key) t l).2 = (look key (hs key) t l).isSome
  | .none, _, _ => rfl
  | .leaf g k x, l, hf => by
    have hg : g = hs k := hf
    unfold del
    by_cases e : k = key
    · subst e; rw [if_pos ⟨hg, rfl⟩]; simp [look]
    · rw [if_neg fun h => e h.2]; simp [look, e]
  | .bucket g L, l, hf => by
    unfold del
    by_cases e : (getM L key).isSome = true
    · obtain ⟨x, hx⟩ := Option.isSome_iff_exists.1 e
      rw [if_pos ⟨(hf.1 _ (getM_mem hx)).symm, e⟩]; simp only [look]; exact e.symm
    · rw [if_neg fun h => e h.2]; simp only [look]; simpa using e
  | .branch kid, l, hf => by
    have ih := look_del (key := key) (kid (chunk (hs key) l)) (l + 1) (hf.2.2.2 _).1
    unfold del
    simp only [look]
    rw [← ih]
    by_cases e : (del key (hs key) (kid (chunk (hs key) l)) (l + 1)).2 = true
    · rw [if_pos e, e]
    · rw [if_neg e]; simp at e; rw [e]

theorem under_collapse {i c : Nat} (kid : Nat → TT) (h : ∀ c', under i c (kid c')) : under i c (collapse kid) := by
  unfold collapse
  split
  · trivial
  · split
    · exact h
    · exact h _
  · exact h
theorem fits_collapse {hs : Bytes → Nat} {N : Nat} (kid : Nat → TT) (l : Nat) (hl : l ≤ 12) (h32 : ∀ c, 32 ≤ c → kid c = .none) (hf : ∀ c, Fits hs N (kid c) (l + 1) ∧ under l c (kid c)) : Fits hs N (collapse kid) l := by
  unfold collapse
  split
  · trivial
  · rename_i c e
    have hm : c ∈ someKids kid := by rw [e]; simp
    split
    · exact ⟨hl, h32, ⟨c, (someKids_mem.1 hm).2⟩, hf⟩
    · rename_i hb
      exact fits_level _ _ _ (by simpa using hb) (hf c).1
  · rename_i h1 h2
    cases hk : someKids kid with
    | nil => exact absurd hk h1
    | cons c cs =>
      have hm : c ∈ someKids kid := by rw [hk]; simp
      exact ⟨hl, h32, ⟨c, (someKids_mem.1 hm).2⟩, hf⟩
theorem small_collapse {N : Nat} (kid : Nat → TT) (h : ∀ c', Small N (kid c')) : Small N (collapse kid) := by
  unfold collapse
  split
  · trivial
  · split
    · exact h
    · exact h _
  · exact h
theorem under_buck {i c g : Nat} (h : chunk g i = c) (L : Pairs) : under i c (buck g L) := by
  match L with
  | [] => trivial
  | [_] => exact h
  | _ :: _ :: _ => exact h
theorem fits_buck {hs : Bytes → Nat} {N g l : Nat} (L : Pairs) (h : ∀ p ∈ L, hs p.1 = g) (hn : Asc L) : Fits hs N (buck g L) l := by
  match L, h, hn with
  | [], _, _ => trivial
  | [p], h, _ => exact (h p (by simp)).symm
  | _ :: _ :: _, h, hn => exact ⟨h, by simp, hn⟩
theorem small_buck {N g : Nat} (L : Pairs) (h : L.length ≤ N) : Small N (buck g L) := by
  match L, h with
  | [], _ => trivial
  | [p], h => trivial
  | _ :: _ :: _, h => exact h
theorem under_del {key : Bytes} {h i c : Nat} : ∀ (t : TT) (l : Nat), under i c t → under i c (del key h t l).1
  | .none, _, _ => trivial
  | .leaf g k x, _, hu => by
    unfold del
    split
    · trivial
    · exact hu
  | .bucket g L, _, hu => by
    unfold del
    split
    · exact under_buck hu _
    · exact hu
  | .branch kid, l, hu => by
    unfold del
    split
    · refine under_collapse _ fun c' => ?_
      show under i c (if _ then _ else _)
      split
      · exact under_del _ _ (hu _)
      · exact hu c'
    · exact hu
theorem small_del {key : Bytes} {h N : Nat} : ∀ (t : TT) (l : Nat), Small N t → Small N (del key h t l).1
  | .none, _, _ => trivial
  | .leaf g k x, _, hu => by
    unfold del
    split
    · trivial
    · trivial
  | .bucket g L, _, hu => by
    have hu' : L.length ≤ N := hu
    unfold del
    split
    · exact small_buck _ (Nat.le_trans (List.length_filter_le _ _) hu')
    · exact hu
  | .branch kid, l, hu => by
    unfold del
    split
    · refine small_collapse _ fun c' => ?_
      show Small N (if _ then _ else _)
      split
      · exact small_del _ _ (hu _)
      · exact hu c'
    · exact hu
theorem fits_del {hs : Bytes → Nat} {N : Nat} {key : Bytes} : ∀ (t : TT) (l : Nat), Fits hs N t l → Fits hs N (del key (hs key) t l).1 l
  | .none, _, _ => trivial
  | .leaf g k x, _, hf => by
    unfold del
    split
    · trivial
    · exact hf
  | .bucket g L, _, hf => by
    unfold del
    split
    · exact fits_buck _ (fun p hp => hf.1 p ((List.mem_filter.1 hp).1)) (without_asc _ _ hf.2.2)
    · exact hf
  | .branch kid, l, hf => by
    unfold del
    split
    · refine fits_collapse _ l hf.1 (fun c hc => ?_) fun c => ?_
      · have := chunk_lt (hs key) l
        show (if _ then _ else _) = _
        rw [if_neg (by omega)]
        exact hf.2.1 c hc
      · show Fits hs N (if _ then _ else _) (l + 1) ∧ under l c (if _ then _ else _)
        by_cases e : c = chunk (hs key) l
        · rw [if_pos e]
          subst e
          exact ⟨fits_del _ (l + 1) (hf.2.2.2 _).1, under_del _ _ (hf.2.2.2 _).2⟩
        · rw [if_neg e]; exact hf.2.2.2 c
    · exact hf
theorem look_del2 {hs : Bytes → Nat} {N : Nat} {key key' : Bytes} : ∀ (t : TT) (l : Nat), Fits hs N t l → look key' (hs key') (del key (hs key) t l).1 l = if key = key' then Option.none else look key' (hs key') t l
  | .none, _, _ => by simp [del, look]
  | .leaf g k x, l, hf => by
    have hg : g = hs k := hf
    unfold del
    by_cases e : k = key
    · subst e
      rw [if_pos ⟨hg, rfl⟩]
      by_cases h : k = key'
      · simp [look, h]
      · simp [look, h]
    · rw [if_neg fun h => e h.2]
      by_cases h : key = key'
      · subst h; simp [look, e]
      · simp [look, h]
  | .bucket g L, l, hf => by
    unfold del
    by_cases e : (getM L key).isSome = true
    · obtain ⟨x, hx⟩ := Option.isSome_iff_exists.1 e
      rw [if_pos ⟨(hf.1 _ (getM_mem hx)).symm, e⟩]
      show look key' (hs key') (buck g (withoutM L key)) l = _
      rw [look_buck, getM_without]
      rfl
    · rw [if_neg fun h => e h.2]
      by_cases h : key = key'
      · subst h
        rw [if_pos rfl]
        simp only [look]
        simpa using e
      · rw [if_neg h]
  | .branch kid, l, hf => by
    have h2 := look_del (key := key) (kid (chunk (hs key) l)) (l + 1) (hf.2.2.2 _).1
    have ih := look_del2 (key := key) (key' := key') (kid (chunk (hs key) l)) (l + 1) (hf.2.2.2 _).1
    unfold del
    by_cases e : (del key (hs key) (kid (chunk (hs key) l)) (l + 1)).2 = true
    · rw [if_pos e]
      show look key' (hs key') (collapse _) l = _
      rw [look_collapse (hs := hs) (N := N)]
      · simp only [look]
        by_cases ec : chunk (hs key') l = chunk (hs key) l
        · rw [if_pos ec, ih, ec]
        · rw [if_neg ec]
          have h : ¬ key = key' := fun h => ec (by rw [h])
          simp [h]
      · intro c
        show Fits hs N (if _ then _ else _) (l + 1) ∧ under l c (if _ then _ else _)
        by_cases ec : c = chunk (hs key) l
        · rw [if_pos ec]
          subst ec
          exact ⟨fits_del _ (l + 1) (hf.2.2.2 _).1, under_del _ _ (hf.2.2.2 _).2⟩
        · rw [if_neg ec]; exact hf.2.2.2 c
    · rw [if_neg e]
      simp only [look]
      by_cases h : key = key'
      · subst h
        have : look key (hs key) (kid (chunk (hs key) l)) (l + 1) = Option.none := by rw [h2] at e; simpa using e
        simp [this]
      · simp [h]

end TT
end Go.Proofs.YtphjaebkcimklaaGreatDoor
