/- The contract of the tree's Sound, at trees whose nodes are even and whose keys rise. -/
import Derived.Test.YtlnlgahokifolaaTList
set_option linter.unusedVariables false
set_option linter.unusedSimpArgs false
namespace Go.Proofs.Ytlnlgahokifolaa
open Go.RowKit

/-- What the closure keeps: the last node, if there was one, and its key. -/
def LastIn (S : Nat → Prop) (ob : Nat) (W : World) (u : Option Addr) : Option Bytes → Prop
  | none => u = none
  | some k => ∃ b kv xv lv rv sz, u = some ⟨b, 0, none⟩ ∧ S b ∧ W.heap[b]? = some (.cells #[kv, xv, lv, rv, .int .i64 sz] 80 (0, 0)) ∧ BIn S W kv k

theorem one_set {W : World} {b : Nat} {t : TypeId} {u : Value} (h : W.heap[b]? = some (.cells #[u] t (0, 0))) (v : Value) : (W.setCell ⟨b, 0, none⟩ v).heap[b]? = some (.cells #[v] t (0, 0)) := by
  simp [World.setCell, Array.getElem?_modify, h]
theorem quiet_same {f : FuncId} {args : Array Value} {w : World} {n : Nat} {v : Value} (h : Calls Try.prog f args (w.drewN n) fun e w' => e = .returned v ∧ w.drewN n = w') :
    Calls Try.prog f args (w.drewN n) fun e w'' => e = .returned v ∧ ∃ m, w'' = w.drewN m := h.mono fun _ _ ⟨he, hm⟩ => ⟨he, n, hm.symm⟩

set_option maxHeartbeats 6400000 in
theorem sstep_any {S : Nat → Prop} (base ob b : Nat) (kv xv lv rv : Value) (k x : Bytes) (l r : PT) (lk : Option Bytes) (u : Option Addr) (W : World)
    (hh : W.heap[b]? = some (.cells #[kv, xv, lv, rv, .int .i64 ((l.size + 1 + r.size : Nat) : Int)] 80 (0, 0))) (hk : BIn S W kv k) (hl : TIn S W lv l) (hr : TIn S W rv r)
    (hob : W.heap[ob]? = some (.cells #[.pointer u] 25 (0, 0))) (hbo : base ≤ ob) (hS : ∀ b, S b → b < base) (hSb : S b) (hlast : LastIn S ob W u lk) (hlt : ∀ k', lk = some k' → Lib.compareBytes k' k = -1)
    (hev : evenB l.size r.size = true) (hn : l.size + 1 + r.size ≤ 1000000) :
    Calls Try.prog 50 #[.pointer (some ⟨b, 0, none⟩), .pointer (some ⟨ob, 0, none⟩)] W fun e W' => e = .returned (.bool true) ∧ W'.heap[ob]? = some (.cells #[.pointer (some ⟨b, 0, none⟩)] 25 (0, 0)) ∧ Below base W W' := by
  obtain ⟨Ak, nk, ck, rfl⟩ := hk.slice
  obtain ⟨lu, rfl⟩ := hl.ptr
  obtain ⟨ru, rfl⟩ := hr.ptr
  have hb1 := hS b hSb
  obtain ⟨c0, c1, c2, c3, c4⟩ := node_cells hh
  have o0 := cell_of_row W ob 0 _ _ _ hob
  have of0 := frozen_of_row W ob 0 _ _ hob
  dsimp at o0
  have hbob : ¬ (b = ob) := by omega
  have hobb : ¬ (ob = b) := by omega
  have hset : Below base W (W.setCell ⟨ob, 0, none⟩ (.pointer (some ⟨b, 0, none⟩))) := (Below.refl base W).setCell (p := ⟨ob, 0, none⟩) hbo _
  have HZL := Lib.hid (fun W' (h : Below base W W') => tsize_any l (.pointer lu) W' (hl.carry h.size fun b hb _ => h.block b (hS b hb)))
  have HZR := Lib.hid (fun W' (h : Below base W W') => tsize_any r (.pointer ru) W' (hr.carry h.size fun b hb _ => h.block b (hS b hb)))
  have HEV := Lib.hid (fun w => even_any l.size r.size w (by omega) (by omega))
  rw [hev] at HEV
  have w1 : IntKind.i64.wrap ((l.size : Int) + 1) = (l.size : Int) + 1 := i64_small (by omega)
  have w2 : IntKind.i64.wrap ((l.size : Int) + 1 + r.size) = (l.size : Int) + 1 + r.size := i64_small (by omega)
  have hcast : ((l.size + 1 + r.size : Nat) : Int) = (l.size : Int) + 1 + r.size := by simp
  rw [hcast] at c4
  have HOB := Lib.hid hob
  have HB := Lib.hid hset
  have HH := Lib.hid hh
  cases lk with
  | none =>
    obtain rfl : u = none := hlast
    clear hh hk hl hr hob hlt hset hev
    go_enter Try.func50, Try.ntmps50
    go_wp2_with fail
    go_quiet (fail)
    go_wp2_with fail
    have hY : Below base W ((W.drewN nq).setCell ⟨ob, 0, none⟩ (.pointer (some ⟨b, 0, none⟩))) := (below_drewN (Below.refl base W) nq).setCell (p := ⟨ob, 0, none⟩) hbo _
    have hYo := one_set (W := W.drewN nq) HOB.out (.pointer (some ⟨b, 0, none⟩))
    have hYh := (hY.block b hb1).trans HH.out
    obtain ⟨y0, y1, y2, y3, y4⟩ := node_cells hYh
    rw [hcast] at y4
    have HY := Lib.hid hY
    have HYO := Lib.hid hYo
    clear hY hYo hYh c0 c1 c2 c3 c4 o0 of0
    generalize (W.drewN nq).setCell ⟨ob, 0, none⟩ (.pointer (some ⟨b, 0, none⟩)) = Y at *
    have D1 := Lib.hid (fun n => HZL.out (Y.drewN n) (below_drewN HY.out n))
    have D2 := Lib.hid (fun n => HZR.out (Y.drewN n) (below_drewN HY.out n))
    go_quiet (first
      | (go_at_call_of 19 (Value.pointer lu); exact quiet_same (D1.out _))
      | (go_at_call_of 19 (Value.pointer ru); exact quiet_same (D2.out _))
      | (go_at_call 52; exact quiet_same (HEV.out _)))
    go_wp2_with fail
    go_ret
    exact ⟨rfl, HYO.out, below_drewN HY.out _⟩
  | some k' =>
    obtain ⟨b', kv', xv', lv', rv', sz', rfl, hSb', hh', hk'⟩ := hlast
    obtain ⟨Ak', nk', ck', rfl⟩ := hk'.slice
    obtain ⟨d0, _, _, _, _⟩ := node_cells hh'
    have HCMP := Lib.hid (fun n => compare_any (.slice Ak' nk' ck') (.slice Ak nk ck) k' k (W.drewN n) (hk'.below (below_drewN (Below.refl _ W) n)) (hk.below (below_drewN (Below.refl _ W) n)))
    rw [hlt k' rfl] at HCMP
    clear hh hk hl hr hob hlt hset hev hh' hk'
    go_enter Try.func50, Try.ntmps50
    go_wp2_with fail
    go_quiet ((go_at_call 51; exact quiet_same (HCMP.out _)))
    clear d0
    go_wp2_with fail
    have hY : Below base W ((W.drewN nq).setCell ⟨ob, 0, none⟩ (.pointer (some ⟨b, 0, none⟩))) := (below_drewN (Below.refl base W) nq).setCell (p := ⟨ob, 0, none⟩) hbo _
    have hYo := one_set (W := W.drewN nq) HOB.out (.pointer (some ⟨b, 0, none⟩))
    have hYh := (hY.block b hb1).trans HH.out
    obtain ⟨y0, y1, y2, y3, y4⟩ := node_cells hYh
    rw [hcast] at y4
    have HY := Lib.hid hY
    have HYO := Lib.hid hYo
    clear hY hYo hYh c0 c1 c2 c3 c4 o0 of0
    generalize (W.drewN nq).setCell ⟨ob, 0, none⟩ (.pointer (some ⟨b, 0, none⟩)) = Y at *
    have D1 := Lib.hid (fun n => HZL.out (Y.drewN n) (below_drewN HY.out n))
    have D2 := Lib.hid (fun n => HZR.out (Y.drewN n) (below_drewN HY.out n))
    go_quiet (first
      | (go_at_call_of 19 (Value.pointer lu); exact quiet_same (D1.out _))
      | (go_at_call_of 19 (Value.pointer ru); exact quiet_same (D2.out _))
      | (go_at_call 52; exact quiet_same (HEV.out _)))
    go_wp2_with fail
    go_ret
    exact ⟨rfl, HYO.out, below_drewN HY.out _⟩

/-- The keys rise. -/
def Asc (L : Pairs) : Prop := L.Pairwise fun a b => Lib.compareBytes a.1 b.1 = -1
theorem LastIn.below {S : Nat → Prop} {base ob : Nat} {w w1 : World} {u : Option Addr} {lk : Option Bytes} (h : LastIn S ob w u lk) (hS : ∀ b, S b → b < base) (hb : Below base w w1) : LastIn S ob w1 u lk := by
  cases lk with
  | none => exact h
  | some k =>
    obtain ⟨b, kv, xv, lv, rv, sz, e, hSb, hh, hk⟩ := h
    exact ⟨b, kv, xv, lv, rv, sz, e, hSb, (hb.block b (hS b hSb)).trans hh, hk.carry hb.size fun b hb' _ => hb.block b (hS b hb')⟩

/-- The closure of Sound. -/
abbrev fnS (ob : Nat) : Value := .func (.func 50) #[] #[.pointer (some ⟨ob, 0, none⟩)]

set_option maxHeartbeats 6400000 in
theorem eachS_any {S : Nat → Prop} (base ob : Nat) (hbo : base ≤ ob) (hS : ∀ b, S b → b < base) : ∀ (T : PT) (v : Value) (w : World) (u : Option Addr) (lk : Option Bytes), TIn S w v T → T.even → T.size ≤ 1000000 →
    w.heap[ob]? = some (.cells #[.pointer u] 25 (0, 0)) → LastIn S ob w u lk → Asc T.list → (∀ k', lk = some k' → ∀ p ∈ T.list, Lib.compareBytes k' p.1 = -1) →
    Calls Try.prog 47 #[v, fnS ob] w fun e w' => e = .returned (.bool true) ∧ (∃ u' lk', w'.heap[ob]? = some (.cells #[.pointer u'] 25 (0, 0)) ∧ LastIn S ob w' u' lk' ∧ ((T.list = [] ∧ lk' = lk) ∨ ∃ p ∈ T.list, lk' = some p.1)) ∧ Below base w w' := by
  intro T
  induction T with
  | nil =>
    intro v w u lk hT _ _ hob hlast _ _
    obtain rfl : v = .pointer none := hT
    have HO := Lib.hid (And.intro hob hlast)
    clear hob hlast
    go_enter Try.func47, Try.ntmps47
    go_wp2_with fail
    go_ret
    exact ⟨rfl, ⟨u, lk, HO.out.1, HO.out.2, .inl ⟨rfl, rfl⟩⟩, Below.refl _ _⟩
  | node l k x r ihl ihr =>
    intro v w u lk hT hev hn hob hlast hasc hlt
    obtain ⟨b, kv, xv, lv, rv, rfl, hSb, hh, hk, hx, hl, hr⟩ := hT
    obtain ⟨hev1, hevl, hevr⟩ := hev
    simp only [PT.size] at hn
    simp only [PT.list] at hasc hlt
    obtain ⟨lu, rfl⟩ := hl.ptr
    obtain ⟨ru, rfl⟩ := hr.ptr
    have ha := List.pairwise_append.1 hasc
    have ha2 := List.pairwise_cons.1 ha.2.1
    have HL1 := Lib.hid (ihl _ w u lk hl hevl (by omega) hob hlast ha.1 (fun k' e p hp => hlt k' e p (List.mem_append_left _ hp)))
    have HH := Lib.hid hh
    have HK := Lib.hid hk
    have HL := Lib.hid hl
    have HR := Lib.hid hr
    have HI := Lib.hid ihr
    have HA := Lib.hid ha
    have HA2 := Lib.hid ha2
    have HLT := Lib.hid hlt
    have HE := Lib.hid (And.intro hev1 hevr)
    have hbb := hS b hSb
    obtain ⟨c0, c1, c2, c3, c4⟩ := node_cells hh
    clear hl hh hk hx hr ihl ihr hob hlast hasc ha ha2 hlt hev1 hevl hevr
    go_enter Try.func47, Try.ntmps47
    go_wp2_with fail
    refine HL1.out.mono ?_
    rintro e w1 ⟨rfl, ⟨u1, lk1, hob1, hlast1, hor1⟩, hb1⟩
    have hh1 := (hb1.block b hbb).trans HH.out
    have HST := Lib.hid (sstep_any base ob b kv xv (.pointer lu) (.pointer ru) k x l r lk1 u1 w1 hh1 (HK.out.carry hb1.size fun b hb _ => hb1.block b (hS b hb)) (HL.out.carry hb1.size fun b hb _ => hb1.block b (hS b hb)) (HR.out.carry hb1.size fun b hb _ => hb1.block b (hS b hb)) hob1 hbo hS hSb hlast1 (by
      intro k' e
      rcases hor1 with ⟨_, e2⟩ | ⟨p, hp, e2⟩
      · rw [e2] at e; exact HLT.out k' e (k, x) (List.mem_append_right _ (List.mem_cons_self ..))
      · rw [e2] at e; cases e; exact HA.out.2.2 p hp (k, x) (List.mem_cons_self ..)) HE.out.1 (by omega))
    have HB1 := Lib.hid hb1
    clear c0 c1 c2 c3 c4 hob1 hlast1 hor1 hb1 hh1
    go_wp2_with fail
    refine HST.out.mono ?_
    rintro e w2 ⟨rfl, hob2, hb2⟩
    have hb12 : Below base w w2 := HB1.out.trans hb2
    have hh2 := (hb12.block b hbb).trans HH.out
    obtain ⟨c0, c1, c2, c3, c4⟩ := node_cells hh2
    have HR2 := Lib.hid (HI.out _ w2 (some ⟨b, 0, none⟩) (some k) (HR.out.carry hb12.size fun b hb _ => hb12.block b (hS b hb)) HE.out.2 (by omega) hob2 ⟨b, kv, xv, _, _, _, rfl, hSb, hh2, HK.out.carry hb12.size fun b hb _ => hb12.block b (hS b hb)⟩ HA2.out.2 (fun k' e p hp => by cases e; exact HA2.out.1 p hp))
    have HB12 := Lib.hid hb12
    clear hob2 hb2 hb12 hh2
    go_wp2_with fail
    refine HR2.out.mono ?_
    rintro e w3 ⟨rfl, ⟨u3, lk3, hob3, hlast3, hor3⟩, hb3⟩
    have HO3 := Lib.hid (And.intro hob3 hlast3)
    have HOR := Lib.hid hor3
    have HB3 := Lib.hid (HB12.out.trans hb3)
    clear hob3 hlast3 hor3 hb3 c0 c1 c2 c3 c4
    go_wp2_with fail
    go_ret
    refine ⟨rfl, ⟨u3, lk3, HO3.out.1, HO3.out.2, .inr ?_⟩, HB3.out⟩
    rw [PT.list]
    rcases HOR.out with ⟨_, e⟩ | ⟨p, hp, e⟩
    · exact ⟨(k, x), List.mem_append_right _ (List.mem_cons_self ..), e⟩
    · exact ⟨p, List.mem_append_right _ (List.mem_cons_of_mem _ hp), e⟩

set_option maxHeartbeats 6400000 in
theorem sound_any {S : Nat → Prop} (T : PT) (v : Value) (w : World) (hT : TIn S w v T) (hev : T.even) (hasc : Asc T.list) (hn : T.size ≤ 1000000) :
    Calls Try.prog 18 #[v] w fun e w' => e = .returned (.bool true) ∧ Below w.heap.size w w' := by
  obtain ⟨vu, rfl⟩ := hT.ptr
  have hb := (Below.refl _ w).alloc (Nat.le_refl _) (.cells #[.pointer none] 25)
  have hE := eachS_any (S := fun b => S b ∧ b < w.heap.size) w.heap.size w.heap.size (Nat.le_refl _) (fun b hb => hb.2) T (.pointer vu) (w.alloc (.cells #[.pointer none] 25)) none none
    ((hT.imp fun b hlt hb => ⟨hb, hlt⟩).carry hb.size fun b h _ => hb.block b h.2) hev hn (heap_new w _) rfl hasc (fun k' e => by cases e)
  have HE := Lib.hid hE
  have HB := Lib.hid hb
  clear hT hE hb
  go_enter Try.func18, Try.ntmps18
  go_wp2_with fail
  refine HE.out.mono ?_
  rintro e w1 ⟨rfl, _, hb1⟩
  have HB1 := Lib.hid (HB.out.trans hb1)
  clear hb1
  go_wp2_with fail
  go_ret
  exact ⟨rfl, HB1.out⟩

end Go.Proofs.Ytlnlgahokifolaa
