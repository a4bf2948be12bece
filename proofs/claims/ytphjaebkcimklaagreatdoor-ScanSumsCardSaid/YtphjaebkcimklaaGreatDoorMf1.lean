/- Texts put together: FNode FTrie FBranch FKid FCells FWith. -/
import Derived.Test.YtphjaebkcimklaaGreatDoorTNode
import Derived.Test.YtphjaebkcimklaaGreatDoorMs1
import Derived.Test.YtphjaebkcimklaaGreatDoorTFirst
import Derived.Test.YtphjaebkcimklaaGreatDoorTrPure
import Derived.Test.YtphjaebkcimklaaGreatDoorMb
import Derived.StillTailTactics
import Derived.RangeFuncBox
/- A trie's nodes as they lie; node.Hash, Pair, Tree, Map, Kind, Count, Leaf, Bucket. -/
set_option linter.unusedVariables false
set_option linter.unusedSimpArgs false
namespace Go.Proofs.YtphjaebkcimklaaGreatDoor
open Go.RowKit


/-! ### What a node's kind is told by -/
theorem info175 : (Tryz.prog.info? 175).map (fun i => (i.zero, i.size, i.bytes)) = some (some (.pointer none), 1, 8) := by kernel_rfl
theorem info181 : (Tryz.prog.info? 181).map (fun i => (i.zero, i.size, i.bytes)) = some (some (.pointer none), 1, 8) := by kernel_rfl
theorem info200 : (Tryz.prog.info? 200).map (fun i => (i.zero, i.size, i.bytes)) = some (some (.pointer none), 1, 8) := by kernel_rfl
theorem ta_175_175 (w : World) (u : Value) : (Instr.typeAssert (.iface 175 u) 33 175 true).run Tryz.prog w = .ok (.tuple #[u, .bool true]) w := by
  obtain ⟨i0, hi, hz0, _, _⟩ := info_parts info175
  have u1 := Tryz.underlying175
  unfold Instr.typeAssert
  simp [run_underlying u1, zeroValue, typeInfo, hi, hz0]
theorem ta_181_175 (w : World) (u : Value) : (Instr.typeAssert (.iface 181 u) 33 175 true).run Tryz.prog w = .ok (.tuple #[.pointer none, .bool false]) w := by
  obtain ⟨i0, hi, hz0, _, _⟩ := info_parts info175
  have u1 := Tryz.underlying175
  unfold Instr.typeAssert
  simp [run_underlying u1, zeroValue, typeInfo, hi, hz0]
theorem ta_200_175 (w : World) (u : Value) : (Instr.typeAssert (.iface 200 u) 33 175 true).run Tryz.prog w = .ok (.tuple #[.pointer none, .bool false]) w := by
  obtain ⟨i0, hi, hz0, _, _⟩ := info_parts info175
  have u1 := Tryz.underlying175
  unfold Instr.typeAssert
  simp [run_underlying u1, zeroValue, typeInfo, hi, hz0]
theorem ta_nil_175 (w : World) (u : Value) : (Instr.typeAssert .nilIface 33 175 true).run Tryz.prog w = .ok (.tuple #[.pointer none, .bool false]) w := by
  obtain ⟨i0, hi, hz0, _, _⟩ := info_parts info175
  have u1 := Tryz.underlying175
  unfold Instr.typeAssert
  simp [run_underlying u1, zeroValue, typeInfo, hi, hz0]
theorem ta_175_181 (w : World) (u : Value) : (Instr.typeAssert (.iface 175 u) 33 181 true).run Tryz.prog w = .ok (.tuple #[.pointer none, .bool false]) w := by
  obtain ⟨i0, hi, hz0, _, _⟩ := info_parts info181
  have u1 := Tryz.underlying181
  unfold Instr.typeAssert
  simp [run_underlying u1, zeroValue, typeInfo, hi, hz0]
theorem ta_181_181 (w : World) (u : Value) : (Instr.typeAssert (.iface 181 u) 33 181 true).run Tryz.prog w = .ok (.tuple #[u, .bool true]) w := by
  obtain ⟨i0, hi, hz0, _, _⟩ := info_parts info181
  have u1 := Tryz.underlying181
  unfold Instr.typeAssert
  simp [run_underlying u1, zeroValue, typeInfo, hi, hz0]
theorem ta_200_181 (w : World) (u : Value) : (Instr.typeAssert (.iface 200 u) 33 181 true).run Tryz.prog w = .ok (.tuple #[.pointer none, .bool false]) w := by
  obtain ⟨i0, hi, hz0, _, _⟩ := info_parts info181
  have u1 := Tryz.underlying181
  unfold Instr.typeAssert
  simp [run_underlying u1, zeroValue, typeInfo, hi, hz0]
theorem ta_nil_181 (w : World) (u : Value) : (Instr.typeAssert .nilIface 33 181 true).run Tryz.prog w = .ok (.tuple #[.pointer none, .bool false]) w := by
  obtain ⟨i0, hi, hz0, _, _⟩ := info_parts info181
  have u1 := Tryz.underlying181
  unfold Instr.typeAssert
  simp [run_underlying u1, zeroValue, typeInfo, hi, hz0]
theorem ta_175_200 (w : World) (u : Value) : (Instr.typeAssert (.iface 175 u) 33 200 true).run Tryz.prog w = .ok (.tuple #[.pointer none, .bool false]) w := by
  obtain ⟨i0, hi, hz0, _, _⟩ := info_parts info200
  have u1 := Tryz.underlying200
  unfold Instr.typeAssert
  simp [run_underlying u1, zeroValue, typeInfo, hi, hz0]
theorem ta_181_200 (w : World) (u : Value) : (Instr.typeAssert (.iface 181 u) 33 200 true).run Tryz.prog w = .ok (.tuple #[.pointer none, .bool false]) w := by
  obtain ⟨i0, hi, hz0, _, _⟩ := info_parts info200
  have u1 := Tryz.underlying200
  unfold Instr.typeAssert
  simp [run_underlying u1, zeroValue, typeInfo, hi, hz0]
theorem ta_200_200 (w : World) (u : Value) : (Instr.typeAssert (.iface 200 u) 33 200 true).run Tryz.prog w = .ok (.tuple #[u, .bool true]) w := by
  obtain ⟨i0, hi, hz0, _, _⟩ := info_parts info200
  have u1 := Tryz.underlying200
  unfold Instr.typeAssert
  simp [run_underlying u1, zeroValue, typeInfo, hi, hz0]
theorem ta_nil_200 (w : World) (u : Value) : (Instr.typeAssert .nilIface 33 200 true).run Tryz.prog w = .ok (.tuple #[.pointer none, .bool false]) w := by
  obtain ⟨i0, hi, hz0, _, _⟩ := info_parts info200
  have u1 := Tryz.underlying200
  unfold Instr.typeAssert
  simp [run_underlying u1, zeroValue, typeInfo, hi, hz0]
/-- A leaf, and a bucket, as they lie. -/
structure LeafAt (S : Nat → Prop) (w : World) (b : Nat) (h : Nat) (k x : Bytes) : Prop where
  cells : ∃ kv xv, w.heap[b]? = some (.cells #[.int .u64 (h : Int), kv, xv] 178 (0, 0)) ∧ BIn S w kv k ∧ BIn S w xv x
structure BucketAt (S : Nat → Prop) (w : World) (b : Nat) (h : Nat) (T : PT) : Prop where
  cells : ∃ tv, w.heap[b]? = some (.cells #[.int .u64 (h : Int), tv] 183 (0, 0)) ∧ TIn S w tv T

set_option maxRecDepth 100000 in
set_option maxHeartbeats 1600000 in
theorem hash_leaf {S : Nat → Prop} (b h : Nat) (k x : Bytes) (w : World) (hl : LeafAt S w b h k x) :
    Calls Tryz.prog 103 #[.iface 175 (.pointer (some ⟨b, 0, none⟩))] w fun e w' => e = .returned (.tuple #[.int .u64 (h : Int), .bool true]) ∧ w' = w := by
  obtain ⟨kv, xv, hb, _, _⟩ := hl.cells
  have c0 := cell_of_row w b 0 _ _ _ hb
  dsimp at c0
  have q1 := ta_175_175
  clear hb hl
  go_enter Tryz.func103, Tryz.ntmps103
  go_wp2_with fail
  go_ret2
  exact ⟨rfl, rfl⟩

set_option maxRecDepth 100000 in
set_option maxHeartbeats 1600000 in
theorem hash_bucket {S : Nat → Prop} (b h : Nat) (T : PT) (w : World) (hl : BucketAt S w b h T) :
    Calls Tryz.prog 103 #[.iface 181 (.pointer (some ⟨b, 0, none⟩))] w fun e w' => e = .returned (.tuple #[.int .u64 (h : Int), .bool true]) ∧ w' = w := by
  obtain ⟨tv, hb, _⟩ := hl.cells
  have c0 := cell_of_row w b 0 _ _ _ hb
  dsimp at c0
  have q1 := ta_181_175
  have q2 := ta_181_181
  clear hb hl
  go_enter Tryz.func103, Tryz.ntmps103
  go_wp2_with fail
  go_ret2
  exact ⟨rfl, rfl⟩

set_option maxRecDepth 100000 in
set_option maxHeartbeats 1600000 in
theorem hash_branch (b : Nat) (w : World) :
    Calls Tryz.prog 103 #[.iface 200 (.pointer (some ⟨b, 0, none⟩))] w fun e w' => e = .returned (.tuple #[.int .u64 0, .bool false]) ∧ w' = w := by
  have q1 := ta_200_175
  have q2 := ta_200_181
  go_enter Tryz.func103, Tryz.ntmps103
  go_wp2_with fail
  go_ret2
  exact ⟨rfl, rfl⟩

/-! ### The methods -/
theorem m_kind_175 (w : World) (u : Value) : (method 336 175 u "Kind").run Tryz.prog w = .ok (171, u) w := by kernel_rfl
theorem m_count_175 (w : World) (u : Value) : (method 336 175 u "Count").run Tryz.prog w = .ok (170, u) w := by kernel_rfl
theorem m_kind_181 (w : World) (u : Value) : (method 336 181 u "Kind").run Tryz.prog w = .ok (173, u) w := by kernel_rfl
theorem m_count_181 (w : World) (u : Value) : (method 336 181 u "Count").run Tryz.prog w = .ok (172, u) w := by kernel_rfl
theorem m_kind_200 (w : World) (u : Value) : (method 336 200 u "Kind").run Tryz.prog w = .ok (175, u) w := by kernel_rfl
theorem m_count_200 (w : World) (u : Value) : (method 336 200 u "Count").run Tryz.prog w = .ok (174, u) w := by kernel_rfl
set_option maxRecDepth 100000 in
set_option maxHeartbeats 800000 in
theorem kind_175 (u : Option Addr) (w : World) : Calls Tryz.prog 171 #[.pointer u] w fun e w' => e = .returned (.int .i64 1) ∧ w' = w := by
  go_enter Tryz.func171, Tryz.ntmps171
  go_wp2_with fail
  go_ret
  exact ⟨rfl, rfl⟩
set_option maxRecDepth 100000 in
set_option maxHeartbeats 800000 in
theorem kind_181 (u : Option Addr) (w : World) : Calls Tryz.prog 173 #[.pointer u] w fun e w' => e = .returned (.int .i64 2) ∧ w' = w := by
  go_enter Tryz.func173, Tryz.ntmps173
  go_wp2_with fail
  go_ret
  exact ⟨rfl, rfl⟩
set_option maxRecDepth 100000 in
set_option maxHeartbeats 800000 in
theorem kind_200 (u : Option Addr) (w : World) : Calls Tryz.prog 175 #[.pointer u] w fun e w' => e = .returned (.int .i64 3) ∧ w' = w := by
  go_enter Tryz.func175, Tryz.ntmps175
  go_wp2_with fail
  go_ret
  exact ⟨rfl, rfl⟩

/-- A branch as it lies: its map, its row of kids, its count. -/
structure BranchAt (w : World) (b : Nat) (m : Nat) (A : Option Addr) (n c : Nat) (count : Int) : Prop where
  cells : w.heap[b]? = some (.cells #[.int .u32 (m : Int), .slice A n c, .int .i64 count] 205 (0, 0))
set_option maxRecDepth 100000 in
set_option maxHeartbeats 800000 in
theorem hash_nil (w : World) :
    Calls Tryz.prog 103 #[.nilIface] w fun e w' => e = .returned (.tuple #[.int .u64 0, .bool false]) ∧ w' = w := by
  have q0 := fun w => ta_nil_175 w .nilIface
  have q1 := fun w => ta_nil_181 w .nilIface
  go_enter Tryz.func103, Tryz.ntmps103
  go_wp2_with fail
  go_ret2
  exact ⟨rfl, rfl⟩
set_option maxRecDepth 100000 in
set_option maxHeartbeats 800000 in
theorem map_branch (w : World) (b m : Nat) (A : Option Addr) (n c : Nat) (count : Int) (h : BranchAt w b m A n c count) :
    Calls Tryz.prog 126 #[.iface 200 (.pointer (some ⟨b, 0, none⟩))] w fun e w' => e = .returned (.tuple #[.int .u32 (m : Int), .bool true]) ∧ w' = w := by
  have c0 := cell_of_row w b 0 _ _ _ h.cells
  dsimp at c0
  clear h
  have q0 := ta_200_200
  go_enter Tryz.func126, Tryz.ntmps126
  go_wp2_with fail
  go_ret2
  exact ⟨rfl, rfl⟩
set_option maxRecDepth 100000 in
set_option maxHeartbeats 800000 in
theorem map_175 (w : World) (b : Nat) :
    Calls Tryz.prog 126 #[.iface 175 (.pointer (some ⟨b, 0, none⟩))] w fun e w' => e = .returned (.tuple #[.int .u32 0, .bool false]) ∧ w' = w := by
  have q0 := ta_175_200
  go_enter Tryz.func126, Tryz.ntmps126
  go_wp2_with fail
  go_ret2
  exact ⟨rfl, rfl⟩
set_option maxRecDepth 100000 in
set_option maxHeartbeats 800000 in
theorem map_181 (w : World) (b : Nat) :
    Calls Tryz.prog 126 #[.iface 181 (.pointer (some ⟨b, 0, none⟩))] w fun e w' => e = .returned (.tuple #[.int .u32 0, .bool false]) ∧ w' = w := by
  have q0 := ta_181_200
  go_enter Tryz.func126, Tryz.ntmps126
  go_wp2_with fail
  go_ret2
  exact ⟨rfl, rfl⟩
set_option maxRecDepth 100000 in
set_option maxHeartbeats 800000 in
theorem map_nil (w : World) :
    Calls Tryz.prog 126 #[.nilIface] w fun e w' => e = .returned (.tuple #[.int .u32 0, .bool false]) ∧ w' = w := by
  have q0 := fun w => ta_nil_200 w .nilIface
  go_enter Tryz.func126, Tryz.ntmps126
  go_wp2_with fail
  go_ret2
  exact ⟨rfl, rfl⟩
set_option maxRecDepth 100000 in
set_option maxHeartbeats 800000 in
theorem tree_bucket (w : World) (b : Nat) (h : Nat) (tu : Option Addr) (hb : w.heap[b]? = some (.cells #[.int .u64 (h : Int), .pointer tu] 183 (0, 0))) :
    Calls Tryz.prog 107 #[.iface 181 (.pointer (some ⟨b, 0, none⟩))] w fun e w' => e = .returned (.tuple #[.pointer tu, .bool true]) ∧ w' = w := by
  have c1 := cell_of_row w b 1 _ _ _ hb
  dsimp at c1
  clear hb
  have q0 := ta_181_181
  go_enter Tryz.func107, Tryz.ntmps107
  go_wp2_with fail
  go_ret2
  exact ⟨rfl, rfl⟩
set_option maxRecDepth 100000 in
set_option maxHeartbeats 800000 in
theorem tree_175 (w : World) (b : Nat) :
    Calls Tryz.prog 107 #[.iface 175 (.pointer (some ⟨b, 0, none⟩))] w fun e w' => e = .returned (.tuple #[.pointer none, .bool false]) ∧ w' = w := by
  have q0 := ta_175_181
  go_enter Tryz.func107, Tryz.ntmps107
  go_wp2_with fail
  go_ret2
  exact ⟨rfl, rfl⟩
set_option maxRecDepth 100000 in
set_option maxHeartbeats 800000 in
theorem tree_200 (w : World) (b : Nat) :
    Calls Tryz.prog 107 #[.iface 200 (.pointer (some ⟨b, 0, none⟩))] w fun e w' => e = .returned (.tuple #[.pointer none, .bool false]) ∧ w' = w := by
  have q0 := ta_200_181
  go_enter Tryz.func107, Tryz.ntmps107
  go_wp2_with fail
  go_ret2
  exact ⟨rfl, rfl⟩
set_option maxRecDepth 100000 in
set_option maxHeartbeats 800000 in
theorem count_leaf (u : Option Addr) (w : World) : Calls Tryz.prog 170 #[.pointer u] w fun e w' => e = .returned (.int .i64 1) ∧ w' = w := by
  go_enter Tryz.func170, Tryz.ntmps170
  go_wp2_with fail
  go_ret
  exact ⟨rfl, rfl⟩
set_option maxRecDepth 100000 in
set_option maxHeartbeats 800000 in
theorem count_branch (w : World) (b m : Nat) (A : Option Addr) (n c : Nat) (count : Int) (h : BranchAt w b m A n c count) : Calls Tryz.prog 174 #[.pointer (some ⟨b, 0, none⟩)] w fun e w' => e = .returned (.int .i64 count) ∧ w' = w := by
  have c2 := cell_of_row w b 2 _ _ _ h.cells
  dsimp at c2
  clear h
  go_enter Tryz.func174, Tryz.ntmps174
  go_wp2_with fail
  go_ret
  exact ⟨rfl, rfl⟩
set_option maxRecDepth 100000 in
set_option maxHeartbeats 800000 in
theorem count_bucket {S : Nat → Prop} (w : World) (b h : Nat) (u : Value) (T : PT) (hb : w.heap[b]? = some (.cells #[.int .u64 (h : Int), u] 183 (0, 0))) (hT : TIn S w u T) : Calls Tryz.prog 172 #[.pointer (some ⟨b, 0, none⟩)] w fun e w' => e = .returned (.int .i64 (T.size : Int)) ∧ w' = w := by
  obtain ⟨tu, rfl⟩ := hT.ptr
  have c1 := cell_of_row w b 1 _ _ _ hb
  dsimp at c1
  have HS := Lib.hid (tsize_any T (.pointer tu) w hT)
  clear hb hT
  go_enter Tryz.func172, Tryz.ntmps172
  go_wp2_with fail
  refine HS.out.mono ?_
  rintro e w1 ⟨rfl, rfl⟩
  go_wp2_with fail
  go_ret
  exact ⟨rfl, rfl⟩



/-- A list of one pair that lies in one block. -/
theorem one_list {S : Nat → Prop} {W : World} {b : Nat} {Ak Ax : Option Addr} {nk ck nx cx : Nat} {k x : Bytes} {t : TypeId} (hb : W.heap[b]? = some (.cells #[.slice Ak nk ck, .slice Ax nx cx] t (0, 0))) (hS : S b) (hk : BIn S W (.slice Ak nk ck) k) (hx : BIn S W (.slice Ax nx cx) x) :
    LIn S W (some ⟨b, 0, none⟩) 1 [(k, x)] :=
  ⟨rfl, fun _ => ⟨b, 0, rfl, (Array.getElem?_eq_some_iff.1 hb).1, hS, fun j hj => by
    obtain rfl : j = 0 := by omega
    exact ⟨_, _, cell_of_row W b 0 _ _ _ hb, cell_of_row W b 1 _ _ _ hb, hk, hx⟩⟩⟩

set_option maxRecDepth 100000 in
set_option maxHeartbeats 1600000 in
theorem leaf_any {S : Nat → Prop} (h : Nat) (Ak Ax : Option Addr) (nk ck nx cx : Nat) (k x : Bytes) (w : World) (hk : BIn S w (.slice Ak nk ck) k) (hx : BIn S w (.slice Ax nx cx) x) :
    Calls Tryz.prog 101 #[.int .u64 (h : Int), .agg #[.slice Ak nk ck, .slice Ax nx cx]] w fun e w' => ∃ b, e = .returned (.iface 175 (.pointer (some ⟨b, 0, none⟩))) ∧ w.heap.size ≤ b ∧ LeafAt (New w.heap.size) w' b h k x ∧ Below w.heap.size w w' := by
  have hb1 : Below w.heap.size w (w.alloc (.cells #[.slice Ak nk ck, .slice Ax nx cx] 60)) := (Below.refl _ _).alloc (Nat.le_refl _) _
  have hb2 : Below w.heap.size w ((w.alloc (.cells #[.slice Ak nk ck, .slice Ax nx cx] 60)).alloc (.cells #[.slice Ak nk ck, .slice Ax nx cx] 60)) := hb1.alloc hb1.size _
  have HB2 := Lib.hid hb2
  have HO := Lib.hid (Own_any [(k, x)] (some ⟨(w.alloc (.cells #[.slice Ak nk ck, .slice Ax nx cx] 60)).heap.size, 0, none⟩) 1 1 _ (one_list (S := fun _ => True) (heap_new (w.alloc (.cells #[.slice Ak nk ck, .slice Ax nx cx] 60)) (.cells #[.slice Ak nk ck, .slice Ax nx cx] 60)) trivial ((hk.below hb2).imp fun _ _ _ => trivial) ((hx.below hb2).imp fun _ _ _ => trivial)) (by omega) (by omega))
  rw [World.size_alloc] at HO
  clear hb1 hb2
  go_enter Tryz.func101, Tryz.ntmps101
  go_wp2_with fail
  refine HO.out.mono ?_
  rintro e w1 ⟨A1, c1, vs, rfl, hown, hb⟩
  have HB1 : Hid (Below w.heap.size w w1) := HB2.out.trans (hb.mono HB2.out.size)
  obtain ⟨hL, _⟩ := reads_own (S := New w.heap.size) hown.own hown.ps hown.len (fun b _ hb => Nat.le_trans HB2.out.size hb.1) (fun b hb => Nat.le_trans HB2.out.size hb)
  obtain ⟨b, o, rfl, _, _, hc⟩ := hL.cell (by omega)
  obtain ⟨kv, xv, c0, c1', hk1, hx1⟩ := hc 0 (by omega)
  obtain ⟨Bk, mk, dk, rfl⟩ := hk1.slice
  obtain ⟨Bx, mx, dx, rfl⟩ := hx1.slice
  simp only [Nat.zero_mul, Nat.add_zero] at c0 c1'
  have HK := Lib.hid hk1
  have HX := Lib.hid hx1
  clear hL hc hown hb hk1 hx1 hk hx
  go_wp2_with fail
  go_ret
  have hn := (Below.refl w1.heap.size w1).alloc (Nat.le_refl _) (.cells #[.int .u64 (h : Int), .slice Bk mk dk, .slice Bx mx dx] 178)
  exact ⟨_, rfl, HB1.out.size, ⟨_, _, heap_new w1 _, HK.out.below hn, HX.out.below hn⟩, HB1.out.alloc HB1.out.size _⟩



set_option maxRecDepth 100000 in
set_option maxHeartbeats 1600000 in
theorem pair_leaf {S : Nat → Prop} (b h : Nat) (k x : Bytes) (w : World) (hl : LeafAt S w b h k x) :
    Calls Tryz.prog 105 #[.iface 175 (.pointer (some ⟨b, 0, none⟩))] w fun e w' => ∃ u, e = .returned (.tuple #[u, .bool true]) ∧ PIn (New w.heap.size) w' u k x ∧ Below w.heap.size w w' := by
  obtain ⟨kv, xv, hb, hk, hx⟩ := hl.cells
  obtain ⟨Ak, nk, ck, rfl⟩ := hk.slice
  obtain ⟨Ax, nx, cx, rfl⟩ := hx.slice
  have hbl := (Array.getElem?_eq_some_iff.1 hb).1
  have hb1 : Below w.heap.size w (w.alloc (.cells #[.slice none 0 0, .slice none 0 0] 60)) := (Below.refl _ _).alloc (Nat.le_refl _) _
  have hb2 : Below w.heap.size w ((w.alloc (.cells #[.slice none 0 0, .slice none 0 0] 60)).alloc (.cells #[.slice Ak nk ck, .slice Ax nx cx] 60)) := hb1.alloc hb1.size _
  have HB2 := Lib.hid hb2
  have hc := (hb1.block b hbl).trans hb
  have c1 := cell_of_row _ b 1 _ _ _ hc
  have c2 := cell_of_row _ b 2 _ _ _ hc
  dsimp at c1 c2
  have HO := Lib.hid (Own_any [(k, x)] (some ⟨(w.alloc (.cells #[.slice none 0 0, .slice none 0 0] 60)).heap.size, 0, none⟩) 1 1 _ (one_list (S := fun _ => True) (heap_new (w.alloc (.cells #[.slice none 0 0, .slice none 0 0] 60)) (.cells #[.slice Ak nk ck, .slice Ax nx cx] 60)) trivial ((hk.below hb2).imp fun _ _ _ => trivial) ((hx.below hb2).imp fun _ _ _ => trivial)) (by omega) (by omega))
  rw [World.size_alloc] at HO
  have HZ : Hid (Two ((w.alloc (.cells #[.slice none 0 0, .slice none 0 0] 60)).alloc (.cells #[.slice Ak nk ck, .slice Ax nx cx] 60)) w.heap.size (.slice none 0 0) (.slice none 0 0)) := heap_old _ (heap_new w _)
  have q0 := ta_175_175
  clear hb1 hb2 hb hk hx hl hc
  go_enter Tryz.func105, Tryz.ntmps105
  go_wp2_with fail
  refine HO.out.mono ?_
  rintro e w1 ⟨A1, c1', vs, rfl, hown, hb⟩
  have HB1 : Hid (Below w.heap.size w w1) := HB2.out.trans (hb.mono HB2.out.size)
  have HZ1 : Hid (Two w1 w.heap.size (.slice none 0 0) (.slice none 0 0)) := HZ.out.below hb HZ.out.lt
  obtain ⟨hL, _⟩ := reads_own (S := fun b => w.heap.size + 1 ≤ b) hown.own hown.ps hown.len (fun b _ hb => by have := hb.1; simp at this; omega) (fun b hb => by simp at hb; omega)
  obtain ⟨b', o, rfl, _, _, hc⟩ := hL.cell (by omega)
  obtain ⟨kv, xv, d0, d1, hk1, hx1⟩ := hc 0 (by omega)
  obtain ⟨Bk, mk, dk, rfl⟩ := hk1.slice
  obtain ⟨Bx, mx, dx, rfl⟩ := hx1.slice
  simp only [Nat.zero_mul, Nat.add_zero] at d0 d1
  obtain ⟨z0, z1⟩ := HZ1.out.cells
  have f0 := frozen_of_row _ _ 0 _ _ HZ1.out
  have f1 := frozen_of_row _ _ 1 _ _ HZ1.out
  have HFIN := Lib.hid (HZ1.out.set (.slice Bk mk dk) (.slice Bx mx dx))
  have HRES : Hid (PIn (New w.heap.size) ((w1.setCell ⟨w.heap.size, 0, none⟩ (.slice Bk mk dk)).setCell ⟨w.heap.size, 1, none⟩ (.slice Bx mx dx)) (.agg #[.slice Bk mk dk, .slice Bx mx dx]) k x) :=
    ⟨_, _, rfl, ((hk1.imp fun b _ hb => hb).set2 (n := w.heap.size + 1) (by omega) _ _).imp fun b _ hb => Nat.le_of_succ_le hb, ((hx1.imp fun b _ hb => hb).set2 (n := w.heap.size + 1) (by omega) _ _).imp fun b _ hb => Nat.le_of_succ_le hb⟩
  have HBE : Hid (Below w.heap.size w ((w1.setCell ⟨w.heap.size, 0, none⟩ (.slice Bk mk dk)).setCell ⟨w.heap.size, 1, none⟩ (.slice Bx mx dx))) := (HB1.out.setCell (p := ⟨w.heap.size, 0, none⟩) (by simp) _).setCell (p := ⟨w.heap.size, 1, none⟩) (by simp) _
  clear hL hc hown hb hk1 hx1
  go_wp2_with fail
  exact bodyPost_ret (results_two rfl _ _ w.heap.size _ _ (by rfl) HFIN.out) rfl ⟨_, rfl, HRES.out, HBE.out⟩

set_option maxRecDepth 100000 in
set_option maxHeartbeats 1600000 in
theorem pair_181 (b : Nat) (w : World) :
    Calls Tryz.prog 105 #[.iface 181 (.pointer (some ⟨b, 0, none⟩))] w fun e w' => e = .returned (.tuple #[.agg #[.slice none 0 0, .slice none 0 0], .bool false]) ∧ Below w.heap.size w w' := by
  have hb1 : Below w.heap.size w (w.alloc (.cells #[.slice none 0 0, .slice none 0 0] 60)) := (Below.refl _ _).alloc (Nat.le_refl _) _
  have HB : Hid (Below w.heap.size w (((w.alloc (.cells #[.slice none 0 0, .slice none 0 0] 60)).setCell ⟨w.heap.size, 0, none⟩ (.slice none 0 0)).setCell ⟨w.heap.size, 1, none⟩ (.slice none 0 0))) := (hb1.setCell (p := ⟨w.heap.size, 0, none⟩) (by simp) _).setCell (p := ⟨w.heap.size, 1, none⟩) (by simp) _
  have hz : Two (w.alloc (.cells #[.slice none 0 0, .slice none 0 0] 60)) w.heap.size (.slice none 0 0) (.slice none 0 0) := heap_new w _
  have HF := Lib.hid (hz.set (.slice none 0 0) (.slice none 0 0))
  obtain ⟨z0, z1⟩ := hz.cells
  have f0 := frozen_of_row _ _ 0 _ _ hz
  have f1 := frozen_of_row _ _ 1 _ _ hz
  have q0 := ta_181_175
  have HZ := Lib.hid hz
  have HB1 := Lib.hid hb1
  clear hb1 hz
  go_enter Tryz.func105, Tryz.ntmps105
  go_wp2_with fail
  first
    | exact bodyPost_ret (results_two rfl _ _ w.heap.size _ _ (by rfl) HF.out) rfl ⟨rfl, HB.out⟩
    | exact bodyPost_ret (results_two rfl _ _ w.heap.size _ _ (by rfl) HZ.out) rfl ⟨rfl, HB1.out⟩
set_option maxRecDepth 100000 in
set_option maxHeartbeats 1600000 in
theorem pair_200 (b : Nat) (w : World) :
    Calls Tryz.prog 105 #[.iface 200 (.pointer (some ⟨b, 0, none⟩))] w fun e w' => e = .returned (.tuple #[.agg #[.slice none 0 0, .slice none 0 0], .bool false]) ∧ Below w.heap.size w w' := by
  have hb1 : Below w.heap.size w (w.alloc (.cells #[.slice none 0 0, .slice none 0 0] 60)) := (Below.refl _ _).alloc (Nat.le_refl _) _
  have HB : Hid (Below w.heap.size w (((w.alloc (.cells #[.slice none 0 0, .slice none 0 0] 60)).setCell ⟨w.heap.size, 0, none⟩ (.slice none 0 0)).setCell ⟨w.heap.size, 1, none⟩ (.slice none 0 0))) := (hb1.setCell (p := ⟨w.heap.size, 0, none⟩) (by simp) _).setCell (p := ⟨w.heap.size, 1, none⟩) (by simp) _
  have hz : Two (w.alloc (.cells #[.slice none 0 0, .slice none 0 0] 60)) w.heap.size (.slice none 0 0) (.slice none 0 0) := heap_new w _
  have HF := Lib.hid (hz.set (.slice none 0 0) (.slice none 0 0))
  obtain ⟨z0, z1⟩ := hz.cells
  have f0 := frozen_of_row _ _ 0 _ _ hz
  have f1 := frozen_of_row _ _ 1 _ _ hz
  have q0 := ta_200_175
  have HZ := Lib.hid hz
  have HB1 := Lib.hid hb1
  clear hb1 hz
  go_enter Tryz.func105, Tryz.ntmps105
  go_wp2_with fail
  first
    | exact bodyPost_ret (results_two rfl _ _ w.heap.size _ _ (by rfl) HF.out) rfl ⟨rfl, HB.out⟩
    | exact bodyPost_ret (results_two rfl _ _ w.heap.size _ _ (by rfl) HZ.out) rfl ⟨rfl, HB1.out⟩



/-- What Bucket makes: nothing, a leaf, or a bucket. -/
def BucketOut (S : Nat → Prop) (w w' : World) (e : Ending) (h : Nat) (T : PT) : Prop :=
  (T.size = 0 ∧ e = .returned .nilIface ∧ w' = w) ∨
  (T.size = 1 ∧ ∃ b, e = .returned (.iface 175 (.pointer (some ⟨b, 0, none⟩))) ∧ w.heap.size ≤ b ∧ LeafAt (New w.heap.size) w' b h T.root.1 T.root.2 ∧ Below w.heap.size w w') ∨
  (2 ≤ T.size ∧ ∃ b, e = .returned (.iface 181 (.pointer (some ⟨b, 0, none⟩))) ∧ w.heap.size ≤ b ∧ BucketAt S w' b h T ∧ Below w.heap.size w w')

set_option maxRecDepth 100000 in
set_option maxHeartbeats 1600000 in
theorem bucket_any {S : Nat → Prop} (h : Nat) (T : PT) (v : Value) (w : World) (hT : TIn S w v T) :
    Calls Tryz.prog 106 #[.int .u64 (h : Int), v] w fun e w' => BucketOut S w w' e h T := by
  obtain ⟨tu, rfl⟩ := hT.ptr
  have HS := Lib.hid (tsize_any T (.pointer tu) w hT)
  have HR := Lib.hid (root_any (.pointer tu) T w hT)
  have HT := Lib.hid hT
  clear hT
  by_cases h0 : T.size = 0
  · have h0' : (T.size : Int) = 0 := by omega
    have HZ := Lib.hid h0
    clear h0
    go_enter Tryz.func106, Tryz.ntmps106
    go_wp2_with fail
    refine HS.out.mono ?_
    rintro e w1 ⟨rfl, rfl⟩
    go_wp2_with fail
    go_ret
    exact .inl ⟨HZ.out, rfl, rfl⟩
  · have h0' : ¬ (T.size : Int) = 0 := by omega
    by_cases h1 : T.size = 1
    · have h1' : (T.size : Int) = 1 := by omega
      have HZ := Lib.hid h1
      clear h0 h1
      go_enter Tryz.func106, Tryz.ntmps106
      go_wp2_with fail
      refine HS.out.mono ?_
      rintro e w1 ⟨rfl, rfl⟩
      go_wp2_with fail
      refine HR.out.mono ?_
      rintro e w2 ⟨u, rfl, hu, hb⟩
      have HB := Lib.hid hb
      obtain ⟨kv, xv, rfl, hk, hx⟩ := hu
      obtain ⟨Bk, mk, dk, rfl⟩ := hk.slice
      obtain ⟨Bx, mx, dx, rfl⟩ := hx.slice
      have HL := Lib.hid (leaf_any (S := fun _ => True) h Bk Bx mk dk mx dx T.root.1 T.root.2 w2 (hk.imp fun _ _ _ => trivial) (hx.imp fun _ _ _ => trivial))
      clear hb hk hx
      go_wp2_with fail
      refine HL.out.mono ?_
      rintro e w3 ⟨b, rfl, hbb, hl, hb3⟩
      have HF : Hid (w.heap.size ≤ b ∧ LeafAt (New w.heap.size) w3 b h T.root.1 T.root.2 ∧ Below w.heap.size w w3) := ⟨Nat.le_trans HB.out.size hbb, (by obtain ⟨kv, xv, h1, h2, h3⟩ := hl.cells; exact ⟨kv, xv, h1, h2.imp fun b _ hb => Nat.le_trans HB.out.size hb, h3.imp fun b _ hb => Nat.le_trans HB.out.size hb⟩), HB.out.trans (hb3.mono HB.out.size)⟩
      clear hl hb3 hbb
      go_wp2_with fail
      go_ret
      exact .inr (.inl ⟨HZ.out, b, rfl, HF.out⟩)
    · have h1' : ¬ (T.size : Int) = 1 := by omega
      have HZ : Hid (2 ≤ T.size) := (by omega : 2 ≤ T.size)
      clear h0 h1
      go_enter Tryz.func106, Tryz.ntmps106
      go_wp2_with fail
      refine HS.out.mono ?_
      rintro e w1 ⟨rfl, rfl⟩
      go_wp2_with fail
      go_ret
      have hn := (Below.refl w.heap.size w).alloc (Nat.le_refl _) (.cells #[.int .u64 (h : Int), .pointer tu] 183)
      exact .inr (.inr ⟨HZ.out, _, rfl, Nat.le_refl _, ⟨_, heap_new w _, HT.out.below hn⟩, hn⟩)

end Go.Proofs.YtphjaebkcimklaaGreatDoor

/- A trie as it lies in memory; node.Branch. -/
set_option linter.unusedVariables false
set_option linter.unusedSimpArgs false
namespace Go.Proofs.YtphjaebkcimklaaGreatDoor
open Go.RowKit

/-- A row of values, as it reads. -/
structure VIn (S : Nat → Prop) (w : World) (A : Option Addr) (us : List Value) : Prop where
  cell : 0 < us.length → ∃ b o, A = some ⟨b, o, none⟩ ∧ b < w.heap.size ∧ S b ∧ ∀ j u, us[j]? = some u → w.cell? ⟨b, o + j, none⟩ = some u
theorem VIn.carry {S : Nat → Prop} {w w1 : World} {A : Option Addr} {us : List Value} (h : VIn S w A us) (hs : w.heap.size ≤ w1.heap.size) (hb : ∀ b, S b → b < w.heap.size → w1.heap[b]? = w.heap[b]?) : VIn S w1 A us :=
  ⟨fun hn => by
    obtain ⟨b, o, e, hlt, hSb, hc⟩ := h.cell hn
    exact ⟨b, o, e, by omega, hSb, fun j u hj => (cell_block (hb b hSb hlt)).trans (hc j u hj)⟩⟩
theorem VIn.imp {S S' : Nat → Prop} {w : World} {A : Option Addr} {us : List Value} (h : VIn S w A us) (hS : ∀ b, b < w.heap.size → S b → S' b) : VIn S' w A us :=
  ⟨fun hn => by
    obtain ⟨b, o, e, hlt, hSb, hc⟩ := h.cell hn
    exact ⟨b, o, e, hlt, hS b hlt hSb, hc⟩⟩
theorem VIn.below {S : Nat → Prop} {w w1 : World} {A : Option Addr} {us : List Value} (h : VIn S w A us) (hk : Below w.heap.size w w1) : VIn S w1 A us := h.carry hk.size fun b _ hlt => hk.block b hlt
theorem VIn.owned {w : World} {base n : Nat} {v : Value} {us : List Value} {e : TypeId} (hn : us.length = n) (h : w.ownsRow base e 1 v n us) : ∃ A c, v = .slice A n c ∧ n ≤ c ∧ VIn (New base) w A us := by
  subst hn
  rcases h.2 with ⟨rfl, hn⟩ | ⟨g, cap, cur, rfl, hb, hg, hc, hm, hs, ht⟩
  · exact ⟨none, 0, by rw [hn], by omega, ⟨fun h => by omega⟩⟩
  · refine ⟨_, cap, rfl, hc, ⟨fun hn => ⟨g, 0, rfl, (Array.getElem?_eq_some_iff.1 hg).1, hb, fun j u hj => ?_⟩⟩⟩
    have hjl := (List.getElem?_eq_some_iff.1 hj).1
    rw [Nat.zero_add, h.cellAt j (by omega)]
    exact hj

/-- A trie lies in memory, in blocks of S. -/
def TrIn (S : Nat → Prop) (w : World) : TT → Value → Prop
  | .none, v => v = .nilIface
  | .leaf h k x, v => ∃ b, v = .iface 175 (.pointer (some ⟨b, 0, none⟩)) ∧ S b ∧ LeafAt S w b h k x
  | .bucket h L, v => ∃ b T, v = .iface 181 (.pointer (some ⟨b, 0, none⟩)) ∧ S b ∧ BucketAt S w b h T ∧ T.list = L ∧ T.even
  | .branch kid, v => ∃ b m A c cnt us, v = .iface 200 (.pointer (some ⟨b, 0, none⟩)) ∧ S b ∧ BranchAt w b m A us.length c cnt ∧ m < 4294967296 ∧ (∀ c, m.testBit c = !(kid c).isNone) ∧
      us.length = (B.listN m 32).length ∧ us.length ≤ c ∧ VIn S w A us ∧ ∀ j, j < us.length → TrIn S w (kid ((B.listN m 32).getD j 0).toNat) (us.getD j .nilIface)

theorem LeafAt.carry {S : Nat → Prop} {w w1 : World} {b h : Nat} {k x : Bytes} (hl : LeafAt S w b h k x) (hSb : S b) (hs : w.heap.size ≤ w1.heap.size) (hb : ∀ b, S b → b < w.heap.size → w1.heap[b]? = w.heap[b]?) : LeafAt S w1 b h k x := by
  obtain ⟨kv, xv, h1, h2, h3⟩ := hl.cells
  exact ⟨kv, xv, (hb b hSb (Array.getElem?_eq_some_iff.1 h1).1).trans h1, h2.carry hs hb, h3.carry hs hb⟩
theorem BucketAt.carry {S : Nat → Prop} {w w1 : World} {b h : Nat} {T : PT} (hl : BucketAt S w b h T) (hSb : S b) (hs : w.heap.size ≤ w1.heap.size) (hb : ∀ b, S b → b < w.heap.size → w1.heap[b]? = w.heap[b]?) : BucketAt S w1 b h T := by
  obtain ⟨tv, h1, h2⟩ := hl.cells
  exact ⟨tv, (hb b hSb (Array.getElem?_eq_some_iff.1 h1).1).trans h1, h2.carry hs hb⟩
theorem LeafAt.imp {S S' : Nat → Prop} {w : World} {b h : Nat} {k x : Bytes} (hl : LeafAt S w b h k x) (hS : ∀ b, b < w.heap.size → S b → S' b) : LeafAt S' w b h k x := by
  obtain ⟨kv, xv, h1, h2, h3⟩ := hl.cells
  exact ⟨kv, xv, h1, h2.imp hS, h3.imp hS⟩
theorem BucketAt.imp {S S' : Nat → Prop} {w : World} {b h : Nat} {T : PT} (hl : BucketAt S w b h T) (hS : ∀ b, b < w.heap.size → S b → S' b) : BucketAt S' w b h T := by
  obtain ⟨tv, h1, h2⟩ := hl.cells
  exact ⟨tv, h1, h2.imp hS⟩
theorem LeafAt.lt {S : Nat → Prop} {w : World} {b h : Nat} {k x : Bytes} (hl : LeafAt S w b h k x) : b < w.heap.size := by
  obtain ⟨kv, xv, h1, h2, h3⟩ := hl.cells
  exact (Array.getElem?_eq_some_iff.1 h1).1
theorem BucketAt.lt {S : Nat → Prop} {w : World} {b h : Nat} {T : PT} (hl : BucketAt S w b h T) : b < w.heap.size := by
  obtain ⟨tv, h1, h2⟩ := hl.cells
  exact (Array.getElem?_eq_some_iff.1 h1).1

theorem TrIn.carry {S : Nat → Prop} {w w1 : World} (hs : w.heap.size ≤ w1.heap.size) (hb : ∀ b, S b → b < w.heap.size → w1.heap[b]? = w.heap[b]?) : ∀ {t : TT} {v : Value}, TrIn S w t v → TrIn S w1 t v
  | .none, _, h => h
  | .leaf _ _ _, _, ⟨b, e, hSb, h⟩ => ⟨b, e, hSb, h.carry hSb hs hb⟩
  | .bucket _ _, _, ⟨b, T, e, hSb, h, hl, he⟩ => ⟨b, T, e, hSb, h.carry hSb hs hb, hl, he⟩
  | .branch kid, _, ⟨b, m, A, c, cnt, us, e, hSb, hB, hm, hk, hl, hc, hV, ht⟩ =>
    ⟨b, m, A, c, cnt, us, e, hSb, ⟨(hb b hSb (Array.getElem?_eq_some_iff.1 hB.cells).1).trans hB.cells⟩, hm, hk, hl, hc, hV.carry hs hb, fun j hj => (ht j hj).carry hs hb⟩
theorem TrIn.imp {S S' : Nat → Prop} {w : World} (hS : ∀ b, b < w.heap.size → S b → S' b) : ∀ {t : TT} {v : Value}, TrIn S w t v → TrIn S' w t v
  | .none, _, h => h
  | .leaf _ _ _, _, ⟨b, e, hSb, h⟩ => ⟨b, e, hS b h.lt hSb, h.imp hS⟩
  | .bucket _ _, _, ⟨b, T, e, hSb, h, hl, he⟩ => ⟨b, T, e, hS b h.lt hSb, h.imp hS, hl, he⟩
  | .branch kid, _, ⟨b, m, A, c, cnt, us, e, hSb, hB, hm, hk, hl, hc, hV, ht⟩ =>
    ⟨b, m, A, c, cnt, us, e, hS b (Array.getElem?_eq_some_iff.1 hB.cells).1 hSb, hB, hm, hk, hl, hc, hV.imp hS, fun j hj => (ht j hj).imp hS⟩
section
variable {S : Nat → Prop} {w w1 : World} {v : Value} {t : TT} {m : Option Nat}
theorem TrIn.below (h : TrIn S w t v) (hk : Below w.heap.size w w1) : TrIn S w1 t v := h.carry hk.size fun b _ hlt => hk.block b hlt
theorem TrIn.kept (h : TrIn S w t v) (hk : Kept m w w1) (hm : ∀ b, S b → m ≠ some b) : TrIn S w1 t v := h.carry hk.size fun b hb hlt => hk.block b hlt (hm b hb)
theorem TrIn.up (h : TrIn S w t v) (n : Nat) : TrIn (Up S n) w t v := h.imp fun _ _ h => .inl h
theorem TrIn.upup {n n' : Nat} (h : TrIn (Up (Up S n) n') w t v) (hn : n ≤ n') : TrIn (Up S n) w t v := h.imp fun b _ h => by rcases h with h | h; exact h; exact .inr (by omega)
theorem TrIn.one (h : TrIn S w t v) : v.oneCell' = true := by
  cases t with
  | none => obtain rfl : v = .nilIface := h; rfl
  | leaf _ _ _ => obtain ⟨b, rfl, _⟩ := h; rfl
  | bucket _ _ => obtain ⟨b, T, rfl, _⟩ := h; rfl
  | branch _ => obtain ⟨b, m, A, c, cnt, us, rfl, _⟩ := h; rfl
end

/-! ### Clone of nodes -/
theorem info33 : (Tryz.prog.info? 33).map (fun i => (i.zero, i.size, i.bytes)) = some (some .nilIface, 1, 16) := by kernel_rfl
theorem nil203 (w : World) (a : Option Addr) (n c n' c' : Nat) : (binOp .eql 203 (.slice a n c) (.slice none n' c')).run Tryz.prog w = .ok (.bool a.isNone) w := Lib.run_eql_slice_nil w _ _ a n c n' c' Tryz.underlying203

set_option maxHeartbeats 1600000 in
theorem nclone_any {S : Nat → Prop} (us : List Value) (A : Option Addr) (c : Nat) (w : World) (h : VIn S w A us) (hn : 0 < us.length) (hn2 : us.length ≤ 1000) (h1 : ∀ u ∈ us, u.oneCell' = true) :
    Calls Tryz.prog 139 #[.slice A us.length c] w fun e w' => ∃ A' c', e = .returned (.slice A' us.length c') ∧ us.length ≤ c' ∧ VIn (New w.heap.size) w' A' us ∧ Below w.heap.size w w' := by
  have q27 := nil203
  obtain ⟨i0, hi, hz0, hz1, hz2⟩ := info_parts info33
  obtain ⟨b, o, rfl, hlt, _, hc⟩ := h.cell hn
  have HC := Lib.hid hc
  have H1 := Lib.hid h1
  clear hc h h1
  go_enter Tryz.func139, Tryz.ntmps139
  go_wp2_with (at_builtin; refine wpList_append_own _ rfl _ _ 203 rfl w.heap.size 33 i0 .nilIface 1 16 Tryz.underlying203 hi hz0 hz1 hz2 rfl (by decide) _ _ _ rfl (World.ownsRow_made w #[] 0 (Nat.le_refl _) (Nat.zero_le _) rfl) ⟨b, o, none⟩ us.length c us rfl ?qc1 ?qc2 ?qc3 ?qc4 ?qc5 ?qc6 ?_)
  case qc1 => omega
  case qc2 =>
    intro j u hj
    refine Lib.cell?_alloc_some _ ?_
    rw [addP]
    exact HC.out j u hj
  case qc3 => exact H1.out
  case qc4 => unfold maxLen; omega
  case qc5 => omega
  case qc6 => simp
  intro v' w1 hown hgrow hnil
  have hb : Below w.heap.size w w1 := ((Below.refl _ w).alloc (Nat.le_refl _) _).grown hgrow (by simp) (by intro k hk; simp [Value.ownBlock] at hk; omega)
  obtain ⟨A', c', rfl, hc', hV⟩ := VIn.owned (n := us.length) rfl (by simpa using hown)
  have HB := Lib.hid hb
  have HI := Lib.hid hV
  clear hown hgrow hnil hb hV
  go_wp2
  go_ret
  exact ⟨A', c', rfl, hc', HI.out, HB.out⟩

end Go.Proofs.YtphjaebkcimklaaGreatDoor

/- node.Branch. -/
set_option linter.unusedVariables false
set_option linter.unusedSimpArgs false
namespace Go.Proofs.YtphjaebkcimklaaGreatDoor
open Go.RowKit

theorem nil33_175 (w : World) (u : Value) : (binOp .eql 33 (.iface 175 u) .nilIface).run Tryz.prog w = .ok (.bool false) w := by kernel_rfl
theorem nil33_181 (w : World) (u : Value) : (binOp .eql 33 (.iface 181 u) .nilIface).run Tryz.prog w = .ok (.bool false) w := by kernel_rfl
theorem nil33_200 (w : World) (u : Value) : (binOp .eql 33 (.iface 200 u) .nilIface).run Tryz.prog w = .ok (.bool false) w := by kernel_rfl
theorem nil33_nil (w : World) : (binOp .eql 33 .nilIface .nilIface).run Tryz.prog w = .ok (.bool true) w := by kernel_rfl

theorem bcount_any (m : Nat) (w : World) (hm : m < 4294967296) : Calls Tryz.prog 138 #[.int .u32 (m : Int)] w fun e w' => e = .returned (.int .i64 ((B.listN m 32).length : Int)) ∧ Below w.heap.size w w' := by
  have := B.count_any m w hm
  rw [← B.listN_len] at this
  exact this

theorem branch_none (m c : Nat) (A : Option Addr) (w : World) : Calls Tryz.prog 122 #[.int .u32 (m : Int), .slice A 0 c] w fun e w' => e = .returned .nilIface ∧ w = w' := by
  go_enter Tryz.func122, Tryz.ntmps122
  go_wp2_with fail
  go_ret
  exact ⟨rfl, rfl⟩

set_option maxRecDepth 100000 in
set_option maxHeartbeats 3200000 in
theorem branch_any {S : Nat → Prop} (m : Nat) (A : Option Addr) (c : Nat) (us : List Value) (kid : Nat → TT) (w : World) (hm : m < 4294967296) (hV : VIn S w A us) (hn0 : 0 < us.length) (hn : us.length = (B.listN m 32).length) (hc : us.length ≤ c)
    (hk : ∀ c, m.testBit c = !(kid c).isNone) (ht : ∀ j, j < us.length → TrIn S w (kid ((B.listN m 32).getD j 0).toNat) (us.getD j .nilIface) ∧ (kid ((B.listN m 32).getD j 0).toNat).isNone = false) :
    Calls Tryz.prog 122 #[.int .u32 (m : Int), .slice A us.length c] w fun e w' => ∃ b, e = .returned (.iface 200 (.pointer (some ⟨b, 0, none⟩))) ∧ TrIn (Up S w.heap.size) w' (.branch kid) (.iface 200 (.pointer (some ⟨b, 0, none⟩))) ∧ Below w.heap.size w w' := by
  have hl32 : us.length ≤ 32 := by rw [hn, B.listN_len]; exact B.cnt_le _ _
  have HCN := Lib.hid (bcount_any m w hm)
  rw [← hn] at HCN
  have H1 : ∀ u ∈ us, u.oneCell' = true := fun u hu => by
    obtain ⟨j, hj, rfl⟩ := List.getElem_of_mem hu
    have := (ht j hj).1.one
    rwa [List.getD_eq_getElem?_getD, List.getElem?_eq_getElem hj, Option.getD_some] at this
  have HCL := Lib.hid (fun W (h : Below w.heap.size w W) => nclone_any us A c W (hV.below h) hn0 (by omega) H1)
  have HV := Lib.hid hV
  have HT := Lib.hid ht
  have HK := Lib.hid hk
  have HN := Lib.hid hn
  have HM := Lib.hid hm
  have HC := Lib.hid hc
  obtain ⟨n, hnn⟩ : ∃ n, us.length = n := ⟨_, rfl⟩
  rw [hnn] at HCN HCL hn0 hl32 ⊢
  have HNN := Lib.hid hnn
  clear hV ht hk hn hnn H1 hm hc
  go_enter Tryz.func122, Tryz.ntmps122
  go_wp2_with fail
  refine HCN.out.mono ?_
  rintro e w0 ⟨rfl, hb0⟩
  have HB0 := Lib.hid hb0
  have HCL2 := Lib.hid (HCL.out w0 hb0)
  clear hb0
  go_wp2_with fail
  refine HCL2.out.mono ?_
  rintro e w1 ⟨A', c', rfl, hc', hV', hb⟩
  have HB : Hid (Below w.heap.size w w1) := HB0.out.trans (hb.mono HB0.out.size)
  have HV' : Hid (VIn (New w.heap.size) w1 A' us) := hV'.imp fun b _ h => Nat.le_trans HB0.out.size h
  have HC' := Lib.hid hc'
  clear hb hV' hc' HCL2
  go_wp2_with fail
  have HX : Hid (Kept (some w1.heap.size) (w1.alloc (.cells #[.int .u32 (m : Int), .slice A' n c', .int .i64 0] 205)) (w1.alloc (.cells #[.int .u32 (m : Int), .slice A' n c', .int .i64 0] 205)) ∧ BranchAt (w1.alloc (.cells #[.int .u32 (m : Int), .slice A' n c', .int .i64 0] 205)) w1.heap.size m A' n c' 0) := ⟨Kept.refl _ _, ⟨heap_new w1 _⟩⟩
  have HXB : Hid (Below w1.heap.size w1 (w1.alloc (.cells #[.int .u32 (m : Int), .slice A' n c', .int .i64 0] 205))) := (Below.refl _ _).alloc (Nat.le_refl _) _
  generalize w1.alloc (.cells #[.int .u32 (m : Int), .slice A' n c', .int .i64 0] 205) = X at *
  have HW : Hid (∀ W, Kept (some w1.heap.size) X W → Below w.heap.size w W ∧ VIn (New w.heap.size) W A' us ∧ VIn S W A us ∧ ∀ j, j < us.length → TrIn S W (kid ((B.listN m 32).getD j 0).toNat) (us.getD j .nilIface)) := fun W hW => by
    have h1 := HB.out.size
    have h2 := HXB.out.size
    have h3 : Below w1.heap.size w1 W := ⟨hW.os.trans HXB.out.os, hW.tape.trans HXB.out.tape, hW.output.trans HXB.out.output, Nat.le_trans h2 hW.size, fun b hb => (hW.block b (by omega) (by simp; omega)).trans (HXB.out.block b hb)⟩
    have h4 := HB.out.trans (h3.mono h1)
    exact ⟨h4, HV'.out.below h3, HV.out.below h4, fun j hj => (HT.out j hj).1.below h4⟩
  go_loopw [25] (fun v wr => ∃ (j : Nat) (q : Int), v = .int .i64 (j : Int) ∧ j ≤ n ∧ Hid (Kept (some w1.heap.size) X wr ∧ BranchAt wr w1.heap.size m A' n c' q)) (fun v _ => n - (intOf v).toNat)
  case atStart => exact ⟨0, 0, rfl, by omega, HX⟩
  case round =>
    obtain ⟨j, q, rfl, hj, hI⟩ := hrel
    by_cases hlt : j < n
    · obtain ⟨hW1, hW2, hW3, hW4⟩ := HW.out wr hI.out.1
      obtain ⟨b, o, rfl, _, _, hcell⟩ := hW3.cell (by have := HNN.out; omega)
      have hlt2 : j < us.length := by rw [HNN.out]; exact hlt
      have c0 := hcell j (us.getD j .nilIface) (by rw [List.getD_eq_getElem?_getD, List.getElem?_eq_getElem hlt2]; rfl)
      have htr := hW4 j hlt2
      have hnn := (HT.out j hlt2).2
      generalize us.getD j .nilIface = u at *
      generalize kid ((B.listN m 32).getD j 0).toNat = t at *
      have d2 := cell_of_row wr w1.heap.size 2 _ _ _ hI.out.2.cells
      have f2 := frozen_of_row wr w1.heap.size 2 _ _ hI.out.2.cells
      dsimp at d2
      have al : (0 : Int) ≤ (j : Int) := by omega
      have al3 : (j : Int) < (n : Int) := by omega
      have p1 := nil33_175
      have p2 := nil33_181
      have p3 := nil33_200
      clear hcell hW1 hW2 hW3 hW4 hlt2
      have HNX : Hid (∀ q', Kept (some w1.heap.size) X (wr.setCell ⟨w1.heap.size, 2, none⟩ (.int .i64 q')).drew ∧ BranchAt (wr.setCell ⟨w1.heap.size, 2, none⟩ (.int .i64 q')).drew w1.heap.size m A' n c' q') := fun q' =>
        ⟨(hI.out.1.trans (Kept.set 2 _)).drew, ⟨heap_setCell_same wr w1.heap.size 2 _ 205 _ hI.out.2.cells⟩⟩
      cases t with
      | none => simp [TT.isNone] at hnn
      | leaf h k x =>
        obtain ⟨b', rfl, _, hl⟩ := htr
        have mm := m_count_175
        clear hl hnn
        go_wp2_with fail
        go_region_with ((go_at_call 170; (with_reducible refine (count_leaf _ _).mono ?_); rintro e wa ⟨rfl, rfl⟩))
        all_goals (
          go_wp2_with fail
          go_roundw
          case rel => exact ⟨j + 1, _, by go_num, by omega, HNX.out _⟩
          case measure => simp [intOf]; omega)
      | bucket h L =>
        obtain ⟨b', T, rfl, _, hl, _⟩ := htr
        obtain ⟨tv, hh, hT⟩ := hl.cells
        have HQ : Hid (Calls Tryz.prog 172 #[.pointer (some ⟨b', 0, none⟩)] wr.drew fun e w' => e = .returned (.int .i64 (T.size : Int)) ∧ w' = wr.drew) := count_bucket wr.drew b' h tv T hh (hT.below (below_drew2 (Below.refl _ _)))
        have mm := m_count_181
        generalize (T.size : Int) = ts at *
        clear hl hnn hh hT
        go_wp2_with fail
        go_region_with ((go_at_call 172; (with_reducible refine HQ.out.mono ?_); rintro e wa ⟨rfl, rfl⟩))
        all_goals (
          go_wp2_with fail
          go_roundw
          case rel => exact ⟨j + 1, _, by go_num, by omega, HNX.out _⟩
          case measure => simp [intOf]; omega)
      | branch kid' =>
        obtain ⟨b', m', A2, c2, cnt, us', rfl, _, hl, _⟩ := htr
        have HQ : Hid (Calls Tryz.prog 174 #[.pointer (some ⟨b', 0, none⟩)] wr.drew fun e w' => e = .returned (.int .i64 cnt) ∧ w' = wr.drew) := count_branch wr.drew b' m' A2 _ c2 cnt ⟨hl.cells⟩
        have mm := m_count_200
        clear hl hnn
        go_wp2_with fail
        go_region_with ((go_at_call 174; (with_reducible refine HQ.out.mono ?_); rintro e wa ⟨rfl, rfl⟩))
        all_goals (
          go_wp2_with fail
          go_roundw
          case rel => exact ⟨j + 1, _, by go_num, by omega, HNX.out _⟩
          case measure => simp [intOf]; omega)
    · obtain rfl : j = n := by omega
      obtain ⟨hW1, hW2, hW3, hW4⟩ := HW.out wr hI.out.1
      have HR : Hid (TrIn (Up S w.heap.size) wr (.branch kid) (.iface 200 (.pointer (some ⟨w1.heap.size, 0, none⟩))) ∧ Below w.heap.size w wr) := by
        have hnn := HNN.out
        subst hnn
        exact ⟨⟨_, m, A', c', q, us, rfl, .inr HB.out.size, hI.out.2, HM.out, HK.out, HN.out, HC'.out, hW2.imp fun b _ hb => .inr hb, fun j hj => (hW4 j hj).up _⟩, hW1⟩
      clear hW1 hW2 hW3 hW4
      go_wp2_with fail
      go_ret
      exact ⟨_, rfl, HR.out⟩

end Go.Proofs.YtphjaebkcimklaaGreatDoor

/- node.Kid; places in the maps of branches. -/
set_option linter.unusedVariables false
set_option linter.unusedSimpArgs false
namespace Go.Proofs.YtphjaebkcimklaaGreatDoor
open Go.RowKit

namespace B
theorem listN_split (m c : Nat) (h : m.testBit c = true) : ∀ d, ∃ r, listN m (c + 1 + d) = listN m c ++ (c : Int) :: r
  | 0 => ⟨[], by rw [Nat.add_zero, listN_succ, if_pos h]⟩
  | d + 1 => by
    obtain ⟨r, hr⟩ := listN_split m c h d
    rw [← Nat.add_assoc, listN_succ, hr]
    split
    · exact ⟨r ++ [((c + 1 + d : Nat) : Int)], by simp⟩
    · exact ⟨r, rfl⟩
theorem listN_at (m c : Nat) (hc : c < 32) (h : m.testBit c = true) : (listN m 32).getD (listN m c).length 0 = (c : Int) ∧ (listN m c).length < (listN m 32).length := by
  obtain ⟨r, hr⟩ := listN_split m c h (32 - (c + 1))
  rw [show c + 1 + (32 - (c + 1)) = 32 by omega] at hr
  rw [hr]
  refine ⟨?_, by simp⟩
  rw [List.getD_eq_getElem?_getD, List.getElem?_append_right (Nat.le_refl _)]
  simp
theorem cnt_mod (m c : Nat) (hc : c ≤ 32) : cnt (m % 2 ^ c).testBit 32 = (listN m c).length := by
  rw [listN_len]
  have e : (32 : Nat) = c + (32 - c) := by omega
  rw [e, cnt_add]
  have h1 : cnt (m % 2 ^ c).testBit c = cnt m.testBit c := cnt_congr c fun k hk => by rw [Nat.testBit_mod_two_pow]; simp [hk]
  have h2 : cnt (fun k => (m % 2 ^ c).testBit (c + k)) (32 - c) = 0 := by
    have : ∀ n, cnt (fun k => (m % 2 ^ c).testBit (c + k)) n = 0 := by
      intro n
      induction n with
      | zero => rfl
      | succ n ih => rw [cnt, ih]; simp [Nat.testBit_mod_two_pow]; try (intro h; omega)
    exact this _
  rw [h1, h2]; rfl
theorem hasK_any (m c : Nat) (w : World) (hm : m < 4294967296) (hc : c < 32) : Calls Tryz.prog 134 #[.int .u32 (m : Int), .int .i64 (c : Int)] w fun e w' => e = .returned (.bool (m.testBit c)) ∧ w = w' := by
  have h := has_any m c w hm
  have e : (m &&& bitN (c : Int) != 0) = m.testBit c := by
    rw [has_eq m c hm, Bool.eq_iff_iff]
    simp only [decide_eq_true_eq, mem_listN]
    constructor
    · rintro ⟨k, _, h2, h3⟩
      obtain rfl : c = k := by omega
      exact h2
    · intro h; exact ⟨c, hc, h, rfl⟩
  rw [e] at h
  exact h
theorem placeK_any (m c : Nat) (w : World) (hm : m < 4294967296) (hc : c < 32) : Calls Tryz.prog 135 #[.int .u32 (m : Int), .int .i64 (c : Int)] w fun e w' => e = .returned (.int .i64 ((listN m c).length : Int)) ∧ w = w' := by
  have h := place_any m c w hm
  have e : c32 (c : Int) = c := by unfold c32; (repeat' split) <;> omega
  rw [e, cnt_mod m c (by omega)] at h
  exact h
theorem withK_any (m c : Nat) (w : World) (hm : m < 4294967296) (hc : c < 32) : Calls Tryz.prog 136 #[.int .u32 (m : Int), .int .i64 (c : Int)] w fun e w' => ∃ m', e = .returned (.int .u32 ((m' : Nat) : Int)) ∧ m' < 4294967296 ∧ (∀ i, m'.testBit i = (m.testBit i || decide (i = c))) ∧ w = w' := by
  refine (with_any m c w hm).mono ?_
  rintro e w' ⟨rfl, rfl⟩
  have hb := bitN_lt (c : Int)
  refine ⟨_, rfl, Nat.or_lt_two_pow (n := 32) hm hb, fun i => ?_, rfl⟩
  rw [Nat.testBit_or, bitN_test]
  congr 1
  rw [decide_eq_decide]
  omega
theorem withoutK_any (m c : Nat) (w : World) (hm : m < 4294967296) (hc : c < 32) : Calls Tryz.prog 148 #[.int .u32 (m : Int), .int .i64 (c : Int)] w fun e w' => ∃ m', e = .returned (.int .u32 ((m' : Nat) : Int)) ∧ m' < 4294967296 ∧ (∀ i, m'.testBit i = (m.testBit i && !decide (i = c))) ∧ w = w' := by
  refine (without_any m c w hm).mono ?_
  rintro e w' ⟨rfl, rfl⟩
  refine ⟨_, rfl, Nat.and_lt_two_pow (n := 32) _ (by omega), fun i => ?_, rfl⟩
  rw [without_eq m c hm, num_test, Bool.eq_iff_iff]
  simp only [decide_eq_true_eq, List.mem_filter, mem_listN, Bool.and_eq_true, Bool.not_eq_true', decide_eq_false_iff_not, ne_eq]
  constructor
  · rintro ⟨⟨⟨k, h1, h2, h3⟩, h4⟩, h5⟩
    obtain rfl : i = k := by omega
    exact ⟨h2, fun e => h4 (by omega)⟩
  · rintro ⟨h1, h2⟩
    have hi : i < 32 := by
      rcases Nat.lt_or_ge i 32 with h | h
      · exact h
      · rw [test_big hm h] at h1; cases h1
    exact ⟨⟨⟨i, hi, h1, rfl⟩, fun e => h2 (by omega)⟩, hi⟩
end B

set_option maxRecDepth 100000 in
set_option maxHeartbeats 1600000 in
theorem kid_at {S : Nat → Prop} (b m c : Nat) (A : Option Addr) (c' : Nat) (cnt : Int) (us : List Value) (w : World) (hB : BranchAt w b m A us.length c' cnt) (hm : m < 4294967296) (hl : us.length = (B.listN m 32).length) (hV : VIn S w A us) (hc : c < 32) (hbc : m.testBit c = true) :
    Calls Tryz.prog 120 #[.iface 200 (.pointer (some ⟨b, 0, none⟩)), .int .i64 (c : Int)] w fun e w' => ∃ q, e = .returned (.tuple #[us.getD (B.listN m c).length .nilIface, .bool true]) ∧ w' = w.drewN q := by
  obtain ⟨ha, hlt⟩ := B.listN_at m c hc hbc
  rw [← hl] at hlt
  obtain ⟨bb, o, rfl, _, _, hcell⟩ := hV.cell (by omega)
  have c1 := hcell (B.listN m c).length (us.getD (B.listN m c).length .nilIface) (by rw [List.getD_eq_getElem?_getD, List.getElem?_eq_getElem hlt]; rfl)
  generalize us.getD (B.listN m c).length .nilIface = u at *
  have HH := Lib.hid (fun w => B.hasK_any m c w hm hc)
  rw [hbc] at HH
  have HP := Lib.hid (fun w => B.placeK_any m c w hm hc)
  have hlc : (B.listN m c).length ≤ 32 := by rw [B.listN_len]; exact Nat.le_trans (B.cnt_le _ _) (by omega)
  have hl32 : us.length ≤ 32 := by rw [hl, B.listN_len]; exact B.cnt_le _ _
  generalize (B.listN m c).length = p at *
  generalize us.length = n at *
  have a0 : (0 : Int) ≤ (p : Int) := by omega
  have a1 : (p : Int) < (n : Int) := by omega
  have d0 := cell_of_row w b 0 _ _ _ hB.cells
  have d1 := cell_of_row w b 1 _ _ _ hB.cells
  dsimp at d0 d1
  have q0 := ta_200_200
  clear hl hV hcell hB ha hbc
  go_enter Tryz.func120, Tryz.ntmps120
  go_wp2_with fail
  refine (HH.out _).mono ?_
  rintro e w1 ⟨rfl, rfl⟩
  go_wp2_with fail
  go_quiet ((go_at_call 135; exact Calls.quiet_of_same ((HP.out _).mono fun e w' ⟨h1, h2⟩ => ⟨h1, h2.symm⟩)))
  go_wp2_with fail
  go_ret2
  exact ⟨_, rfl, rfl⟩
theorem kid_yes {S : Nat → Prop} (kid : Nat → TT) (v : Value) (c : Nat) (w : World) (h : TrIn S w (.branch kid) v) (hc : c < 32) (hk : (kid c).isNone = false) :
    Calls Tryz.prog 120 #[v, .int .i64 (c : Int)] w fun e w' => ∃ u q, e = .returned (.tuple #[u, .bool true]) ∧ TrIn S w (kid c) u ∧ w' = w.drewN q := by
  obtain ⟨b, m, A, c', cnt, us, rfl, hSb, hB, hm, hbit, hl, hcap, hV, ht⟩ := h
  have hbc : m.testBit c = true := by rw [hbit, hk]; rfl
  obtain ⟨ha, hlt⟩ := B.listN_at m c hc hbc
  rw [← hl] at hlt
  have hu := ht _ hlt
  rw [ha, Int.toNat_natCast] at hu
  exact (kid_at b m c A c' cnt us w hB hm hl hV hc hbc).mono fun e w' ⟨q, h1, h2⟩ => ⟨_, q, h1, hu, h2⟩

set_option maxRecDepth 100000 in
set_option maxHeartbeats 1600000 in
theorem kid_no {S : Nat → Prop} (kid : Nat → TT) (v : Value) (c : Nat) (w : World) (h : TrIn S w (.branch kid) v) (hc : c < 32) (hk : (kid c).isNone = true) :
    Calls Tryz.prog 120 #[v, .int .i64 (c : Int)] w fun e w' => e = .returned (.tuple #[.nilIface, .bool false]) ∧ w = w' := by
  obtain ⟨b, m, A, c', cnt, us, rfl, hSb, hB, hm, hbit, hl, hcap, hV, ht⟩ := h
  have hbc : m.testBit c = false := by rw [hbit, hk]; rfl
  have HH := Lib.hid (fun w => B.hasK_any m c w hm hc)
  rw [hbc] at HH
  have d0 := cell_of_row w b 0 _ _ _ hB.cells
  dsimp at d0
  have q0 := ta_200_200
  clear hbit hl hV ht hB hk hbc
  go_enter Tryz.func120, Tryz.ntmps120
  go_wp2_with fail
  refine (HH.out _).mono ?_
  rintro e w1 ⟨rfl, rfl⟩
  go_wp2_with fail
  go_ret2
  exact ⟨rfl, rfl⟩

/-- A branch's child, or nothing. -/
theorem kid_any {S : Nat → Prop} (kid : Nat → TT) (v : Value) (c : Nat) (w : World) (h : TrIn S w (.branch kid) v) (hc : c < 32) :
    Calls Tryz.prog 120 #[v, .int .i64 (c : Int)] w fun e w' => ∃ u, e = .returned (.tuple #[u, .bool (!(kid c).isNone)]) ∧ TrIn S w' (kid c) u ∧ Below w.heap.size w w' := by
  cases hk : (kid c).isNone with
  | true =>
    refine (kid_no kid v c w h hc hk).mono ?_
    rintro e w' ⟨rfl, rfl⟩
    refine ⟨_, rfl, ?_, Below.refl _ _⟩
    cases hkc : kid c with
    | none => rfl
    | leaf _ _ _ => rw [hkc] at hk; cases hk
    | bucket _ _ => rw [hkc] at hk; cases hk
    | branch _ => rw [hkc] at hk; cases hk
  | false =>
    refine (kid_yes kid v c w h hc hk).mono ?_
    rintro e w' ⟨u, q, rfl, hu, rfl⟩
    exact ⟨u, rfl, hu.below (below_drewN' q), below_drewN' q⟩

end Go.Proofs.YtphjaebkcimklaaGreatDoor

/- What lies in memory lies in blocks of cells alone: it stays where another kind of block is turned. -/
set_option linter.unusedVariables false
set_option linter.unusedSimpArgs false
namespace Go.Proofs.YtphjaebkcimklaaGreatDoor
open Go.RowKit

/-- A block of cells. -/
def IsC (w : World) (b : Nat) : Prop := ∃ cs t fr, w.heap[b]? = some (.cells cs t fr)
theorem IsC.of {w : World} {b : Nat} {cs : Array Value} {t : TypeId} {fr : Nat × Nat} (h : w.heap[b]? = some (.cells cs t fr)) : IsC w b := ⟨cs, t, fr, h⟩
theorem IsC.of_cell {w : World} {b o : Nat} {v : Value} (h : w.cell? ⟨b, o, none⟩ = some v) : IsC w b := by
  unfold World.cell? at h
  cases e : w.heap[b]? with
  | none => simp [e] at h
  | some ob =>
    cases ob with
    | cells cs t fr => exact ⟨cs, t, fr, e⟩
    | _ => simp [e] at h
section
variable {S : Nat → Prop} {w w1 : World}
theorem BIn.onC {v : Value} {l : Bytes} (h : BIn S w v l) : BIn (fun b => S b ∧ IsC w b) w v l := by
  obtain ⟨A, n, c, rfl, hc, hr, hs⟩ := h
  refine ⟨A, n, c, rfl, hc, hr, fun b o hn e => ⟨hs b o hn e, ?_⟩⟩
  obtain ⟨b', o', e', _, hcell⟩ := hr.cell hn
  rw [e] at e'
  cases e'
  exact IsC.of_cell (hcell 0 hn)
theorem TIn.onC : ∀ {T : PT} {v : Value}, TIn S w v T → TIn (fun b => S b ∧ IsC w b) w v T
  | .nil, _, h => h
  | .node _ _ _ _, _, ⟨b, kv, xv, lv, rv, e, hb, hh, h1, h2, h3, h4⟩ => ⟨b, kv, xv, lv, rv, e, ⟨hb, .of hh⟩, hh, h1.onC, h2.onC, h3.onC, h4.onC⟩
theorem LeafAt.onC {b h : Nat} {k x : Bytes} (hl : LeafAt S w b h k x) : LeafAt (fun b => S b ∧ IsC w b) w b h k x := by
  obtain ⟨kv, xv, h1, h2, h3⟩ := hl.cells
  exact ⟨kv, xv, h1, h2.onC, h3.onC⟩
theorem BucketAt.onC {b h : Nat} {T : PT} (hl : BucketAt S w b h T) : BucketAt (fun b => S b ∧ IsC w b) w b h T := by
  obtain ⟨tv, h1, h2⟩ := hl.cells
  exact ⟨tv, h1, h2.onC⟩
theorem VIn.onC {A : Option Addr} {us : List Value} (h : VIn S w A us) : VIn (fun b => S b ∧ IsC w b) w A us :=
  ⟨fun hn => by
    obtain ⟨b, o, e, hlt, hSb, hc⟩ := h.cell hn
    refine ⟨b, o, e, hlt, ⟨hSb, ?_⟩, hc⟩
    exact IsC.of_cell (hc 0 us[0] (List.getElem?_eq_getElem hn))⟩
theorem TrIn.onC : ∀ {t : TT} {v : Value}, TrIn S w t v → TrIn (fun b => S b ∧ IsC w b) w t v
  | .none, _, h => h
  | .leaf _ _ _, _, ⟨b, e, hSb, h⟩ => ⟨b, e, ⟨hSb, by obtain ⟨_, _, h1, _⟩ := h.cells; exact .of h1⟩, h.onC⟩
  | .bucket _ _, _, ⟨b, T, e, hSb, h, hl, he⟩ => ⟨b, T, e, ⟨hSb, by obtain ⟨_, h1, _⟩ := h.cells; exact .of h1⟩, h.onC, hl, he⟩
  | .branch kid, _, ⟨b, m, A, c, cnt, us, e, hSb, hB, hm, hk, hl, hc, hV, ht⟩ =>
    ⟨b, m, A, c, cnt, us, e, ⟨hSb, .of hB.cells⟩, hB, hm, hk, hl, hc, hV.onC, fun j hj => (ht j hj).onC⟩
theorem LIn.onC {A : Option Addr} {n : Nat} {L : Pairs} (h : LIn S w A n L) : LIn (fun b => S b ∧ IsC w b) w A n L :=
  ⟨h.len, fun hn => by
    obtain ⟨b, o, e, hlt, hSb, hc⟩ := h.cell hn
    refine ⟨b, o, e, hlt, ⟨hSb, ?_⟩, fun j hj => ?_⟩
    · obtain ⟨kv, xv, c0, _⟩ := hc 0 hn
      exact IsC.of_cell c0
    · obtain ⟨kv, xv, c0, c1, hk, hx⟩ := hc j hj
      exact ⟨kv, xv, c0, c1, hk.onC, hx.onC⟩⟩
theorem MIn.onC {A : Option Addr} {n : Nat} {M : Pairs} (h : MIn S w A n M) : MIn (fun b => S b ∧ IsC w b) w A n M :=
  ⟨h.len, fun hn => by
    obtain ⟨b, o, e, hlt, hSb, hc⟩ := h.cell hn
    exact ⟨b, o, e, hlt, ⟨hSb, IsC.of_cell (hc 0 hn).1⟩, hc⟩⟩

/-- A block that is no cells is turned. -/
theorem put_far {D : Nat} {o o' : Obj} (hD : w.heap[D]? = some o) (ho : o.isCells = false) {b : Nat} (hC : IsC w b) : (w.putObj D o').heap[b]? = w.heap[b]? :=
  World.putObj_heap_other (fun e => by
    subst e
    obtain ⟨cs, t, fr, h⟩ := hC
    rw [hD] at h; cases h; cases ho)
theorem TrIn.putObj {t : TT} {v : Value} {D : Nat} {o o' : Obj} (h : TrIn S w t v) (hD : w.heap[D]? = some o) (ho : o.isCells = false) : TrIn S (w.putObj D o') t v :=
  (h.onC.carry (by simp) (fun b hb _ => put_far hD ho hb.2)).imp fun _ _ hb => hb.1
theorem TIn.putObj {T : PT} {v : Value} {D : Nat} {o o' : Obj} (h : TIn S w v T) (hD : w.heap[D]? = some o) (ho : o.isCells = false) : TIn S (w.putObj D o') v T :=
  (h.onC.carry (by simp) (fun b hb _ => put_far hD ho hb.2)).imp fun _ _ hb => hb.1
theorem MIn.putObj {A : Option Addr} {n : Nat} {M : Pairs} {D : Nat} {o o' : Obj} (h : MIn S w A n M) (hD : w.heap[D]? = some o) (ho : o.isCells = false) : MIn S (w.putObj D o') A n M :=
  (h.onC.carry (by simp) (fun b hb _ => put_far hD ho hb.2)).imp fun _ _ hb => hb.1
theorem LIn.putObj {A : Option Addr} {n : Nat} {L : Pairs} {D : Nat} {o o' : Obj} (h : LIn S w A n L) (hD : w.heap[D]? = some o) (ho : o.isCells = false) : LIn S (w.putObj D o') A n L :=
  (h.onC.carry (by simp) (fun b hb _ => put_far hD ho hb.2)).imp fun _ _ hb => hb.1
end

end Go.Proofs.YtphjaebkcimklaaGreatDoor

/- graft.With: a branch with another child, or one more. -/
set_option linter.unusedVariables false
set_option linter.unusedSimpArgs false
namespace Go.Proofs.YtphjaebkcimklaaGreatDoor
open Go.RowKit Go.Shelf
attribute [local go_sem] Oper.semAt_some

theorem ownsRow_drewN {w : World} {base : Nat} {e : TypeId} {size n : Nat} {v : Value} {xs : List Value} (h : w.ownsRow base e size v n xs) (q : Nat) : (w.drewN q).ownsRow base e size v n xs :=
  h.kept (row := none) ⟨rfl, rfl, rfl, Nat.le_refl _, fun _ _ _ => rfl⟩ (by cases v.ownBlock <;> simp)

theorem _root_.Go.Boxed.own {W W' : World} {row : Option Nat} {B : Nat} {t : TypeId} {v : Value} (h : Boxed W B t v) (hg : W.grownBy W' row) (hr : ∀ r, row = some r → ∃ o : Obj, W.heap[r]? = some o ∧ o.isCells = false) : Boxed W' B t v :=
  h.kept hg (fun e => by obtain ⟨o, ho, hc⟩ := hr B e.symm; rw [show W.heap[B]? = _ from h] at ho; cases ho; cases hc)
theorem TrIn.iface {S : Nat → Prop} {w : World} {t : TT} {v : Value} (h : TrIn S w t v) (ht : t.isNone = false) : ∃ T p, v = .iface T p := by
  cases t with
  | none => cases ht
  | leaf _ _ _ => obtain ⟨b, rfl, _⟩ := h; exact ⟨_, _, rfl⟩
  | bucket _ _ => obtain ⟨b, T, rfl, _⟩ := h; exact ⟨_, _, rfl⟩
  | branch _ => obtain ⟨b, m, A, c, cnt, us, rfl, _⟩ := h; exact ⟨_, _, rfl⟩

/-- The value of a child in a row of values, at any number. -/
def kvalM (us : List Value) (m : Nat) (x : Int) : Value := if x ∈ B.listN m 32 then us.getD (B.listN m x.toNat).length .nilIface else .nilIface
/-- Or another one's, at one place. -/
def kvalW (us : List Value) (m c : Nat) (u : Value) (x : Int) : Value := if x = (c : Int) then u else kvalM us m x
/-- Nil, or an interface's value. -/
def IsIf (v : Value) : Prop := v = .nilIface ∨ ∃ T p, v = .iface T p
theorem kvalM_if {us : List Value} (h : ∀ u ∈ us, IsIf u) (m : Nat) (x : Int) : IsIf (kvalM us m x) := by
  unfold kvalM
  split
  · rw [List.getD_eq_getElem?_getD]
    cases e : us[(B.listN m x.toNat).length]? with
    | none => exact .inl rfl
    | some u => exact h u (List.mem_of_getElem? e)
  · exact .inl rfl
theorem TrIn.isIf {S : Nat → Prop} {w : World} {t : TT} {v : Value} (h : TrIn S w t v) : IsIf v := by
  cases ht : t.isNone with
  | true =>
    cases t with
    | none => exact .inl h
    | leaf _ _ _ => cases ht
    | bucket _ _ => cases ht
    | branch _ => cases ht
  | false => exact .inr (h.iface ht)

set_option maxRecDepth 100000 in
set_option maxHeartbeats 1600000 in
theorem kid_int {S : Nat → Prop} (b m : Nat) (x : Int) (A : Option Addr) (c' : Nat) (cnt : Int) (us : List Value) (w : World) (hB : BranchAt w b m A us.length c' cnt) (hm : m < 4294967296) (hl : us.length = (B.listN m 32).length) (hV : VIn S w A us) :
    Calls Tryz.prog 120 #[.iface 200 (.pointer (some ⟨b, 0, none⟩)), .int .i64 x] w fun e w' => ∃ q r, e = .returned (.tuple #[kvalM us m x, .bool r]) ∧ w' = w.drewN q := by
  by_cases hx : x ∈ B.listN m 32
  · obtain ⟨k, hk, hb, rfl⟩ := (B.mem_listN m 32 x).1 hx
    refine (kid_at b m k A c' cnt us w hB hm hl hV hk hb).mono ?_
    rintro e w' ⟨q, rfl, rfl⟩
    exact ⟨q, true, by rw [kvalM, if_pos hx, Int.toNat_natCast], rfl⟩
  · have HH := Lib.hid (fun w => B.has_any m x w hm)
    rw [B.has_eq m x hm, decide_eq_false hx] at HH
    have HE : Hid (kvalM us m x = .nilIface) := if_neg hx
    have d0 := cell_of_row w b 0 _ _ _ hB.cells
    dsimp at d0
    have q0 := ta_200_200
    clear hl hV hB hx
    go_enter Tryz.func120, Tryz.ntmps120
    go_wp2_with fail
    refine (HH.out _).mono ?_
    rintro e w1 ⟨rfl, rfl⟩
    go_wp2_with fail
    go_ret2
    exact ⟨0, false, by rw [HE.out]; rfl, rfl⟩

set_option maxRecDepth 100000 in
set_option maxHeartbeats 3200000 in
theorem with_any {S : Nat → Prop} (kid : Nat → TT) (v : Value) (c : Nat) (t : TT) (u : Value) (w : World) (hT : TrIn S w (.branch kid) v) (hc : c < 32) (hu : TrIn S w t u) (ht : t.isNone = false) (hTab : B.TabOK w) :
    Calls Tryz.prog 121 #[v, .int .i64 (c : Int), u] w fun e w' => ∃ b, e = .returned (.iface 200 (.pointer (some ⟨b, 0, none⟩))) ∧ TrIn (Up S w.heap.size) w' (.branch fun i => if i = c then t else kid i) (.iface 200 (.pointer (some ⟨b, 0, none⟩))) ∧ Below w.heap.size w w' := by
  obtain ⟨b, m, A, c', cnt, us, rfl, hSb, hB, hm, hbit, hl, hcap, hV, htk⟩ := hT
  obtain ⟨i0, hi, hz0, hz1, hz2⟩ := info_parts info33
  obtain ⟨uT, up, rfl⟩ := hu.iface ht
  have hX : ∀ o1 o2 o3 o4 : Obj, (((w.alloc o1).alloc o2).alloc o3).heap.size = w.heap.size + 1 + 1 + 1 := fun _ _ _ _ => by simp
  have hb3 : Below w.heap.size w (((w.alloc (.cells #[.iface 200 (.pointer (some ⟨b, 0, none⟩))] 33)).alloc (.cells #[.int .i64 (c : Int)] 3)).alloc (.cells #[.iface uT up] 33)) := (((Below.refl _ w).alloc (Nat.le_refl _) _).alloc (by simp) _).alloc (by simp; omega) _
  have k3 : Boxed (((w.alloc (.cells #[.iface 200 (.pointer (some ⟨b, 0, none⟩))] 33)).alloc (.cells #[.int .i64 (c : Int)] 3)).alloc (.cells #[.iface uT up] 33)) w.heap.size 33 (.iface 200 (.pointer (some ⟨b, 0, none⟩))) := ((Boxed.new w 33 _).alloc _).alloc _
  have k4 : Boxed (((w.alloc (.cells #[.iface 200 (.pointer (some ⟨b, 0, none⟩))] 33)).alloc (.cells #[.int .i64 (c : Int)] 3)).alloc (.cells #[.iface uT up] 33)) (w.heap.size + 1) 3 (.int .i64 (c : Int)) := by
    have := Boxed.new (w.alloc (.cells #[.iface 200 (.pointer (some ⟨b, 0, none⟩))] 33)) 3 (.int .i64 (c : Int))
    rw [World.size_alloc] at this
    exact this.alloc _
  have k5 : Boxed (((w.alloc (.cells #[.iface 200 (.pointer (some ⟨b, 0, none⟩))] 33)).alloc (.cells #[.int .i64 (c : Int)] 3)).alloc (.cells #[.iface uT up] 33)) (w.heap.size + 1 + 1) 33 (.iface uT up) := by
    have := Boxed.new ((w.alloc (.cells #[.iface 200 (.pointer (some ⟨b, 0, none⟩))] 33)).alloc (.cells #[.int .i64 (c : Int)] 3)) 33 (.iface uT up)
    rw [World.size_alloc, World.size_alloc] at this
    exact this
  have hs3 : (((w.alloc (.cells #[.iface 200 (.pointer (some ⟨b, 0, none⟩))] 33)).alloc (.cells #[.int .i64 (c : Int)] 3)).alloc (.cells #[.iface uT up] 33)).heap.size = w.heap.size + 1 + 1 + 1 := by simp
  refine (callsIn_wide (n := 6)).1 (callsIn_of_wp_marks Tryz.func121 rfl trivial ((wpIn_wide (n := 6)).2 ?_) rfl)
  simp only [Tryz.ntmps121, List.size_toArray, List.length_cons, List.length_nil, Nat.reduceAdd, Nat.reduceSub, Array.replicate_succ, Array.replicate_zero, List.push_toArray, List.append_toArray, List.nil_append, List.cons_append]
  go_upto_region 1 with fail
  generalize (((w.alloc (.cells #[.iface 200 (.pointer (some ⟨b, 0, none⟩))] 33)).alloc (.cells #[.int .i64 (c : Int)] 3)).alloc (.cells #[.iface uT up] 33)) = X at *
  have HM := Lib.hid (map_branch X b m A us.length c' cnt ⟨(hb3.block b (Array.getElem?_eq_some_iff.1 hB.cells).1).trans hB.cells⟩)
  have HW := Lib.hid (fun W => B.withK_any m c W hm hc)
  have z3 := k3.cell
  have z4 := k4.cell
  have z5 := k5.cell
  have HK := Lib.hid (And.intro hb3 (And.intro k3 (And.intro k4 (And.intro k5 hs3))))
  have HD := Lib.hid (And.intro hB (And.intro hbit (And.intro hl (And.intro hcap (And.intro hV htk)))))
  have HU := Lib.hid (And.intro hu ht)
  have HTB := Lib.hid hTab
  clear hB hbit hl hcap hV htk hb3 k3 k4 k5 hs3 hu ht hX hTab
  go_wp2_with fail
  refine HM.out.mono ?_
  rintro e w1 ⟨rfl, rfl⟩
  go_wp2_with fail
  refine (HW.out _).mono ?_
  rintro e w1 ⟨m', rfl, hm', hb', rfl⟩
  have HM' := Lib.hid (And.intro hm' hb')
  clear hm' hb'
  go_wp2_with fail
  refine (B.allf_any m' _).mono ?_
  rintro e w1 ⟨rfl, rfl⟩
  go_wp2_with fail
  have hbb : Below w1.heap.size w1 ((w1.alloc (.cells #[.slice none 0 0] 203)).alloc (.cells #[.int .u32 (m' : Int)] 186)) := ((Below.refl _ w1).alloc (Nat.le_refl _) _).alloc (by simp) _
  have k9 : Boxed ((w1.alloc (.cells #[.slice none 0 0] 203)).alloc (.cells #[.int .u32 (m' : Int)] 186)) w1.heap.size 203 (.slice none 0 0) := (Boxed.new w1 203 _).alloc _
  have kB : Boxed ((w1.alloc (.cells #[.slice none 0 0] 203)).alloc (.cells #[.int .u32 (m' : Int)] 186)) (w1.heap.size + 1) 186 (.int .u32 (m' : Int)) := by
    have := Boxed.new (w1.alloc (.cells #[.slice none 0 0] 203)) 186 (.int .u32 (m' : Int))
    rw [World.size_alloc] at this
    exact this
  have hsY : ((w1.alloc (.cells #[.slice none 0 0] 203)).alloc (.cells #[.int .u32 (m' : Int)] 186)).heap.size = w1.heap.size + 1 + 1 := by simp
  clear z3 z4 z5
  generalize (w1.alloc (.cells #[.slice none 0 0] 203)).alloc (.cells #[.int .u32 (m' : Int)] 186) = Y at *
  obtain ⟨hb3, k3, k4, k5, hs3⟩ := HK.out
  have HS3 := Lib.hid hs3
  have hw1 : w.heap.size + 1 + 1 < w1.heap.size := by omega
  have hsz3 := hb3.size
  have hBY : Below w.heap.size w Y := hb3.trans (hbb.mono hsz3)
  have j3 := k3.kept (W' := Y) (row := none) ⟨hbb.os, hbb.tape, hbb.output, hbb.size, fun b hb _ => hbb.block b hb⟩ (by simp)
  have j4 := k4.kept (W' := Y) (row := none) ⟨hbb.os, hbb.tape, hbb.output, hbb.size, fun b hb _ => hbb.block b hb⟩ (by simp)
  have j5 := k5.kept (W' := Y) (row := none) ⟨hbb.os, hbb.tape, hbb.output, hbb.size, fun b hb _ => hbb.block b hb⟩ (by simp)
  clear hs3 k3 k4 k5
  have hw2 : w.heap.size < Y.heap.size ∧ w1.heap.size + 1 < Y.heap.size := by omega
  have HSY := Lib.hid hsY
  clear hsY
  refine (wpIn_wide (n := 6)).1 ?_
  refine wpIn_rangeFunc_ownF rfl (by omega) (gf := 145) (lb := #[.pointer (some ⟨w1.heap.size + 1, 0, none⟩)]) rfl trivial (enters_of Tryz.func145 (by kernel_rfl) rfl)
    (B.all_stops (w1.heap.size + 1) w1.heap.size m' HM'.out.1 (by have := HTB.out.1; omega) Y (by omega) (by omega) kB.cell (HTB.out.below HTB.out.1 (Nat.le_refl _) hBY)) belowK_t (belowK_b (by omega)) (Below.refl _ _) (fun _ => rfl)
    (fun pre W => ((∃ v, Boxed W w1.heap.size 203 v ∧ W.ownsRow w1.heap.size 33 1 v pre.length (pre.map (kvalW us m c (.iface uT up))) ∧ True) ∧ (Boxed W w.heap.size 33 (.iface 200 (.pointer (some ⟨b, 0, none⟩))) ∧ Boxed W (w.heap.size + 1) 3 (.int .i64 (c : Int)) ∧ Boxed W (w.heap.size + 1 + 1) 33 (.iface uT up))) ∧ Below w.heap.size w W)
    (fun _ _ _ => False)
    (OwnFrom.and (OwnFrom.and (Own.from (holdsRow_own w1.heap.size w1.heap.size 203 33 1 (fun pre : List Int => pre.length) (fun pre => pre.map (kvalW us m c (.iface uT up))) (fun _ _ => True)) _) (Own.from (fun s A B row hs hg hr => ⟨hs.1.own hg hr, hs.2.1.own hg hr, hs.2.2.own hg hr⟩) _)) (ownFrom_below (Nat.le_refl _) (by omega)))
    (fun _ _ _ _ _ hs _ _ => hs)
    ⟨⟨⟨_, k9, World.ownsRow_nil _ _ _ _, trivial⟩, ⟨j3, j4, j5⟩⟩, hBY⟩
    (fun x => { tmps := #[.iface 200 (.pointer (some ⟨b, 0, none⟩)), .int .i64 (c : Int), .iface uT up, .pointer (some ⟨w.heap.size, 0, none⟩), .pointer (some ⟨w.heap.size + 1, 0, none⟩), .pointer (some ⟨w.heap.size + 1 + 1, 0, none⟩), .nilIface, .int .u32 (m' : Int), .bool true, .pointer (some ⟨w1.heap.size, 0, none⟩), .int .i64 x, undef, undef, .tuple #[.int .u32 (m : Int), .bool true], .iface 200 (.pointer (some ⟨b, 0, none⟩)), .tuple #[.int .u32 (m : Int), .bool true], .int .u32 (m : Int), .bool true, .int .u32 (m : Int), .int .i64 (c : Int), .int .u32 (m' : Int), .int .u32 (m' : Int), .func (.func 145) #[] #[.pointer (some ⟨w1.heap.size + 1, 0, none⟩)], .int .i64 x, undef, undef, undef, undef, undef, undef, undef, undef, undef, undef, undef, undef, undef, undef, undef, undef, undef, undef, undef, undef], defers := [] }) ?assign ?body ?done ?stop
  case assign =>
    intro l x W K hK
    gi_wp2
    exact hK
  case body =>
    rintro l pre x W ⟨⟨⟨v, hv, hrow, _⟩, h3, h4, h5⟩, hB⟩ hlt
    have hc9 := hv.cell
    have z3 := h3.cell
    have z4 := h4.cell
    have z5 := h5.cell
    have hBs := hB.size
    have hvl := hv.lt
    have hpl : pre.length < 32 := hlt
    by_cases hx : x = (c : Int)
    · subst hx
      have HE : Hid ((pre ++ [(c : Int)]).map (kvalW us m c (.iface uT up)) = pre.map (kvalW us m c (.iface uT up)) ++ [.iface uT up]) := by
        rw [List.map_append, List.map_singleton, kvalW, if_pos rfl]; exact (rfl : pre.map (kvalW us m c (.iface uT up)) ++ [.iface uT up] = _)
      gi_wp2_with (gi_at_builtin; refine wpListIn_append_own _ rfl _ _ 203 rfl w1.heap.size 33 i0 .nilIface 1 16 Tryz.underlying203 hi hz0 hz1 hz2 rfl (by decide) _ _ _ rfl (hrow.alloc _) ⟨W.heap.size, 0, none⟩ 1 1 [.iface uT up] rfl rfl (cell_one_new _ _ _) (by simp [Value.oneCell']) (by unfold maxLen; omega) (by omega) (by simp; omega) ?_; intro v' w2 hown' hgrow _; obtain ⟨g', cap', rfl⟩ := ownsRow_succ hown'; obtain ⟨hv1, hv2, hr2, hk2, hb2⟩ := Boxed.appended (W := W) hv (by decide) hrow (Nat.le_of_lt hv.lt) (Nat.le_refl _) hown' hgrow; have hc1 := hv1.cell; have hf1 := hv1.frozen)
      have hb2' := hb2
      exact ⟨hk2, hb2, ⟨⟨_, hv2, by rw [HE.out, List.length_append]; exact hr2, trivial⟩, (hb2.block _ (by omega)).trans h3, (hb2.block _ (by omega)).trans h4, (hb2.block _ (by omega)).trans h5⟩, hB.trans (hb2'.mono (by omega))⟩
    · have HE : Hid ((pre ++ [x]).map (kvalW us m c (.iface uT up)) = pre.map (kvalW us m c (.iface uT up)) ++ [kvalM us m x]) := by
        rw [List.map_append, List.map_singleton, kvalW, if_neg hx]; exact (rfl : pre.map (kvalW us m c (.iface uT up)) ++ [kvalM us m x] = _)
      have hxb : (x == (c : Int)) = false := by simpa using hx
      have HKI := Lib.hid (kid_int b m x A c' cnt us W ⟨(hB.block b (Array.getElem?_eq_some_iff.1 HD.out.1.cells).1).trans HD.out.1.cells⟩ hm HD.out.2.2.1 (HD.out.2.2.2.2.1.below hB))
      have hif := kvalM_if (us := us) (fun u hu => by
        obtain ⟨j, hj, rfl⟩ := List.getElem_of_mem hu
        have := (HD.out.2.2.2.2.2 j hj).isIf
        rwa [List.getD_eq_getElem?_getD, List.getElem?_eq_getElem hj, Option.getD_some] at this) m x
      generalize kvalM us m x = kv at *
      clear hx
      rcases hif with rfl | ⟨kT, kp, rfl⟩
      · gi_wp2
        refine ⟨trivial, ?_⟩
        with_reducible refine (CallsIn.inRound l (callsIn_wide.2 HKI.out)).mono ?_
        rintro e wq ⟨q, r, rfl, rfl⟩
        have HRW := ownsRow_drewN hrow q
        have c9q : (W.drewN q).cell? ⟨w1.heap.size, 0, none⟩ = some v := hc9
        gi_wp2_with (first
          | (gi_at_builtin; refine wpListIn_append_own _ rfl _ _ 203 rfl w1.heap.size 33 i0 .nilIface 1 16 Tryz.underlying203 hi hz0 hz1 hz2 rfl (by decide) _ _ _ rfl (HRW.alloc _) ⟨W.heap.size, 0, none⟩ 1 1 [.nilIface] rfl rfl (cell_one_new _ _ _) (by simp [Value.oneCell']) (by unfold maxLen; omega) (by omega) (by simp; omega) ?_; intro v' w2 hown' hgrow _; obtain ⟨g', cap', rfl⟩ := ownsRow_succ hown'; obtain ⟨hv1, hv2, hr2, hk2, hb2⟩ := Boxed.appended (W := W.drewN q) hv (by decide) HRW (Nat.le_of_lt hv.lt) (Nat.le_refl _) hown' hgrow; have hc1 := hv1.cell; have hf1 := hv1.frozen))
        have hb2' : Below w1.heap.size W _ := (below_drewN (Below.refl _ W) q).trans hb2
        exact ⟨⟨hk2.1, hk2.2⟩, hb2', ⟨⟨_, hv2, by rw [HE.out, List.length_append]; exact hr2, trivial⟩, (hb2.block _ (by omega)).trans h3, (hb2.block _ (by omega)).trans h4, (hb2.block _ (by omega)).trans h5⟩, hB.trans (hb2'.mono (by omega))⟩
      · gi_wp2
        refine ⟨trivial, ?_⟩
        with_reducible refine (CallsIn.inRound l (callsIn_wide.2 HKI.out)).mono ?_
        rintro e wq ⟨q, r, rfl, rfl⟩
        have HRW := ownsRow_drewN hrow q
        have c9q : (W.drewN q).cell? ⟨w1.heap.size, 0, none⟩ = some v := hc9
        gi_wp2_with (first
          | (gi_at_builtin; refine wpListIn_append_own _ rfl _ _ 203 rfl w1.heap.size 33 i0 .nilIface 1 16 Tryz.underlying203 hi hz0 hz1 hz2 rfl (by decide) _ _ _ rfl (HRW.alloc _) ⟨W.heap.size, 0, none⟩ 1 1 [.iface kT kp] rfl rfl (cell_one_new _ _ _) (by simp [Value.oneCell']) (by unfold maxLen; omega) (by omega) (by simp; omega) ?_; intro v' w2 hown' hgrow _; obtain ⟨g', cap', rfl⟩ := ownsRow_succ hown'; obtain ⟨hv1, hv2, hr2, hk2, hb2⟩ := Boxed.appended (W := W.drewN q) hv (by decide) HRW (Nat.le_of_lt hv.lt) (Nat.le_refl _) hown' hgrow; have hc1 := hv1.cell; have hf1 := hv1.frozen))
        have hb2' : Below w1.heap.size W _ := (below_drewN (Below.refl _ W) q).trans hb2
        exact ⟨⟨hk2.1, hk2.2⟩, hb2', ⟨⟨_, hv2, by rw [HE.out, List.length_append]; exact hr2, trivial⟩, (hb2.block _ (by omega)).trans h3, (hb2.block _ (by omega)).trans h4, (hb2.block _ (by omega)).trans h5⟩, hB.trans (hb2'.mono (by omega))⟩
  case done =>
    rintro D ys W hD rfl ⟨⟨⟨v, hv, hrow, _⟩, h3, h4, h5⟩, hB⟩ hK
    have hc9 := hv.cell
    have HOWN := Lib.hid hrow
    have HBO := Lib.hid hB
    have hys : (B.listN m' 32).length ≤ 32 := by rw [B.listN_len]; exact B.cnt_le _ _
    obtain ⟨Av, cv, rfl, hcv, hVv⟩ := VIn.owned (n := (B.listN m' 32).length) (by simp) hrow
    have hlm : ((B.listN m' 32).map (kvalW us m c (.iface uT up))).length = (B.listN m' 32).length := by simp
    have hbc : c ∈ (List.range 32) := by simp; omega
    have hpos : 0 < (B.listN m' 32).length := by
      have : (c : Int) ∈ B.listN m' 32 := (B.mem_listN m' 32 c).2 ⟨c, hc, by rw [HM'.out.2]; simp, rfl⟩
      exact List.length_pos_of_mem this
    have HBR := branch_any (S := Up S w.heap.size) m' Av cv ((B.listN m' 32).map (kvalW us m c (.iface uT up))) (fun i => if i = c then t else kid i) W HM'.out.1 (hVv.imp fun b _ hb => .inr (by have : w1.heap.size ≤ b := hb; omega)) (by rw [hlm]; exact hpos) hlm (by rw [hlm]; exact hcv)
      (fun i => by
        show m'.testBit i = !(if i = c then t else kid i).isNone
        rw [HM'.out.2, HD.out.2.1]
        by_cases e : i = c
        · rw [if_pos e]; simp [e, HU.out.2]
        · rw [if_neg e]; simp [e])
      (fun j hj => by
        rw [hlm] at hj
        have hmem : (B.listN m' 32).getD j 0 ∈ B.listN m' 32 := by rw [List.getD_eq_getElem?_getD, List.getElem?_eq_getElem hj, Option.getD_some]; exact List.getElem_mem hj
        have hval : ((B.listN m' 32).map (kvalW us m c (.iface uT up))).getD j .nilIface = kvalW us m c (.iface uT up) ((B.listN m' 32).getD j 0) := by
          rw [List.getD_eq_getElem?_getD, List.getElem?_map, List.getD_eq_getElem?_getD, List.getElem?_eq_getElem hj]; rfl
        rw [hval]
        generalize (B.listN m' 32).getD j 0 = x at *
        obtain ⟨k, hk, hb, rfl⟩ := (B.mem_listN m' 32 x).1 hmem
        rw [Int.toNat_natCast]
        show TrIn (Up S w.heap.size) W (if k = c then t else kid k) _ ∧ (if k = c then t else kid k).isNone = false
        unfold kvalW
        by_cases e : k = c
        · rw [if_pos e, if_pos (by rw [e])]
          exact ⟨(HU.out.1.below HBO.out).up _, HU.out.2⟩
        · rw [if_neg e, if_neg (by omega)]
          rw [HM'.out.2] at hb
          have hb2 : m.testBit k = true := by simpa [e] using hb
          obtain ⟨ha, hlt⟩ := B.listN_at m k hk hb2
          rw [← HD.out.2.2.1] at hlt
          have hu := HD.out.2.2.2.2.2 _ hlt
          rw [ha, Int.toNat_natCast] at hu
          rw [kvalM, if_pos ((B.mem_listN m 32 k).2 ⟨k, hk, hb2, rfl⟩), Int.toNat_natCast]
          refine ⟨(hu.below HBO.out).up _, ?_⟩
          have := HD.out.2.1 k
          rw [hb2] at this
          simpa using this.symm)
    rw [hlm] at HBR
    have HBR2 := Lib.hid HBR
    have hdl : D < W.heap.size := (Array.getElem?_eq_some_iff.1 hK).1
    clear HBR hrow hVv hlm hbc
    go_wp2_with fail
    refine HBR2.out.mono ?_
    rintro e w9 ⟨bb, rfl, h91, h92⟩
    have HF := Lib.hid (And.intro h91 h92)
    clear h91 h92
    have hK9 : w9.heap[D]? = some (.deferred (some [])) := (HF.out.2.block D hdl).trans hK
    have HFIN : Hid (TrIn (Up S w.heap.size) (w9.putObj D (.deferred none)) (.branch fun i => if i = c then t else kid i) (.iface 200 (.pointer (some ⟨bb, 0, none⟩))) ∧ Below w.heap.size w (w9.putObj D (.deferred none))) := by
      have hb9 := HBO.out.trans (HF.out.2.mono HBO.out.size)
      have hDw : w.heap.size ≤ D := by omega
      exact ⟨(HF.out.1.upup HBO.out.size).putObj hK9 rfl, hb9.trans ((belowK_b (w := w) (Nat.le_refl _) w9 D _ _ hDw hK9 rfl rfl))⟩
    go_wp2_with fail
    refine ⟨by simp, .inl ⟨_, _, rfl, run_takeDeferred hK9, ?_⟩⟩
    exact ⟨_, results_tmp rfl _ _ _, bb, rfl, HFIN.out⟩
  case stop =>
    rintro D c pre W _ _ h _
    exact h.elim

end Go.Proofs.YtphjaebkcimklaaGreatDoor
