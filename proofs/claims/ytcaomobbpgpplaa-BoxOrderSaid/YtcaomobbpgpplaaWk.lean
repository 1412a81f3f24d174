/-
  The contracts of package box and of its reference, each function once. Conditions: none but that texts are no longer than a string may be.
-/
import Derived.Test.YtcaomobbpgpplaaProg
import Derived.Test.YtcaomobbpgpplaaShelf
import Derived.WalkKit
import Derived.WalkSpells
import Derived.WalkLawsBesides
import Derived.Lib.Hide
import Derived.Defers
import Derived.Recover
import Derived.Laws.Pointers
namespace Go.Proofs.Ytcaomobbpgpplaa
open Go.RowKit

/-- What a box holds. -/
inductive Bx where
  | none : Bx
  | num : Int → Bx
  | name : ByteArray → Bx
  | text : ByteArray → Bx

/-- As the program has it: the field's cell. -/
def Bx.cell : Bx → Value
  | .none => .nilIface
  | .num n => .iface 3 (.int .i64 n)
  | .name s => .iface 42 (.string s)
  | .text s => .iface 44 (.string s)
def Bx.val (b : Bx) : Value := .agg #[b.cell]

/-! ### The assertions -/
theorem is_num (v : Value) (w : World) : (Instr.typeAssert (.iface 3 v) 20 3 true).run Try.prog w = .ok (.tuple #[v, .bool true]) w := by kernel_rfl
theorem is_name (v : Value) (w : World) : (Instr.typeAssert (.iface 42 v) 20 42 true).run Try.prog w = .ok (.tuple #[v, .bool true]) w := by kernel_rfl
theorem is_text (v : Value) (w : World) : (Instr.typeAssert (.iface 44 v) 20 44 true).run Try.prog w = .ok (.tuple #[v, .bool true]) w := by kernel_rfl
theorem num_name (v : Value) (w : World) : (Instr.typeAssert (.iface 3 v) 20 42 true).run Try.prog w = .ok (.tuple #[.string ⟨#[]⟩, .bool false]) w := by kernel_rfl
theorem num_text (v : Value) (w : World) : (Instr.typeAssert (.iface 3 v) 20 44 true).run Try.prog w = .ok (.tuple #[.string ⟨#[]⟩, .bool false]) w := by kernel_rfl
theorem name_num (v : Value) (w : World) : (Instr.typeAssert (.iface 42 v) 20 3 true).run Try.prog w = .ok (.tuple #[.int .i64 0, .bool false]) w := by kernel_rfl
theorem name_text (v : Value) (w : World) : (Instr.typeAssert (.iface 42 v) 20 44 true).run Try.prog w = .ok (.tuple #[.string ⟨#[]⟩, .bool false]) w := by kernel_rfl
theorem text_num (v : Value) (w : World) : (Instr.typeAssert (.iface 44 v) 20 3 true).run Try.prog w = .ok (.tuple #[.int .i64 0, .bool false]) w := by kernel_rfl
theorem text_name (v : Value) (w : World) : (Instr.typeAssert (.iface 44 v) 20 42 true).run Try.prog w = .ok (.tuple #[.string ⟨#[]⟩, .bool false]) w := by kernel_rfl
theorem none_num (w : World) : (Instr.typeAssert .nilIface 20 3 true).run Try.prog w = .ok (.tuple #[.int .i64 0, .bool false]) w := by kernel_rfl
theorem none_name (w : World) : (Instr.typeAssert .nilIface 20 42 true).run Try.prog w = .ok (.tuple #[.string ⟨#[]⟩, .bool false]) w := by kernel_rfl
theorem none_text (w : World) : (Instr.typeAssert .nilIface 20 44 true).run Try.prog w = .ok (.tuple #[.string ⟨#[]⟩, .bool false]) w := by kernel_rfl
theorem must_num (v : Value) (w : World) : (Instr.typeAssert (.iface 3 v) 20 3 false).run Try.prog w = .ok v w := by kernel_rfl
theorem must_name (v : Value) (w : World) : (Instr.typeAssert (.iface 42 v) 20 42 false).run Try.prog w = .ok v w := by kernel_rfl
theorem must_text (v : Value) (w : World) : (Instr.typeAssert (.iface 44 v) 20 44 false).run Try.prog w = .ok v w := by kernel_rfl

/-- The value of a failed assertion's panic, and the block that it leads to. -/
def handle (t : Nat) : Value := .pointer (some ⟨1, t, none⟩)
def dies (w : World) : Value := .iface 15 (.pointer (some ⟨w.heap.size, 0, none⟩))
def fell (c : Value) (t : Nat) : Obj := .cells #[handle 20, c, handle t, .string ⟨#[]⟩] 50
theorem dies_iface (t u : Nat) (v : Value) (w : World) (hu : (u = 3 ∨ u = 42 ∨ u = 44) ∧ (t = 3 ∨ t = 42 ∨ t = 44) ∧ t ≠ u) :
    (Instr.typeAssert (.iface t v) 20 u false).run Try.prog w = .halt (.panic (dies w)) (w.alloc (fell (handle t) u)) := by
  obtain ⟨h1, h2, h3⟩ := hu
  rcases h1 with rfl | rfl | rfl <;> rcases h2 with rfl | rfl | rfl <;> first | exact absurd rfl h3 | kernel_rfl
theorem dies_none (u : Nat) (w : World) (hu : u = 3 ∨ u = 42 ∨ u = 44) :
    (Instr.typeAssert .nilIface 20 u false).run Try.prog w = .halt (.panic (dies w)) (w.alloc (fell (.pointer none) u)) := by
  rcases hu with rfl | rfl | rfl <;> kernel_rfl


/-! ### AsNumber, AsName, AsText, Kind -/
def Bx.num? : Bx → Int × Bool
  | .num n => (n, true)
  | _ => (0, false)
def Bx.name? : Bx → ByteArray × Bool
  | .name s => (s, true)
  | _ => (⟨#[]⟩, false)
def Bx.text? : Bx → ByteArray × Bool
  | .text s => (s, true)
  | _ => (⟨#[]⟩, false)
def Bx.kind : Bx → Int
  | .none => 0
  | .num _ => 1
  | .name _ => 2
  | .text _ => 3

theorem new_below (w : World) (o : Obj) : Below w.heap.size w (w.alloc o) := (Below.refl _ _).alloc (Nat.le_refl _) o

set_option maxHeartbeats 400000 in
theorem asNumber_any (b : Bx) (w : World) :
    Calls Try.prog 13 #[b.val] w fun e w' => e = .returned (.tuple #[.int .i64 b.num?.1, .bool b.num?.2]) ∧ w.alloc (.cells #[b.cell] 27) = w' := by
  have f1 := is_num
  have f2 := name_num
  have f3 := text_num
  have f4 := none_num
  cases b <;> simp only [Bx.val, Bx.cell, Bx.num?]
  all_goals
    go_enter Try.func13, Try.ntmps13
    go_wp2
    go_ret2
    exact ⟨rfl, rfl⟩

set_option maxHeartbeats 400000 in
theorem asName_any (b : Bx) (w : World) :
    Calls Try.prog 14 #[b.val] w fun e w' => e = .returned (.tuple #[.string b.name?.1, .bool b.name?.2]) ∧ w.alloc (.cells #[b.cell] 27) = w' := by
  have f1 := is_name
  have f2 := num_name
  have f3 := text_name
  have f4 := none_name
  cases b <;> simp only [Bx.val, Bx.cell, Bx.name?]
  all_goals
    go_enter Try.func14, Try.ntmps14
    go_wp2
    go_ret2
    exact ⟨rfl, rfl⟩

set_option maxHeartbeats 400000 in
theorem asText_any (b : Bx) (w : World) :
    Calls Try.prog 15 #[b.val] w fun e w' => e = .returned (.tuple #[.string b.text?.1, .bool b.text?.2]) ∧ w.alloc (.cells #[b.cell] 27) = w' := by
  have f1 := is_text
  have f2 := num_text
  have f3 := name_text
  have f4 := none_text
  cases b <;> simp only [Bx.val, Bx.cell, Bx.text?]
  all_goals
    go_enter Try.func15, Try.ntmps15
    go_wp2
    go_ret2
    exact ⟨rfl, rfl⟩

set_option maxHeartbeats 400000 in
theorem kind_any (b : Bx) (w : World) :
    Calls Try.prog 16 #[b.val] w fun e w' => e = .returned (.int .i64 b.kind) ∧ w.alloc (.cells #[b.cell] 27) = w' := by
  have f1 := is_num
  have f2 := is_name
  have f3 := is_text
  have g1 := name_num
  have g2 := text_num
  have g3 := none_num
  have g4 := num_name
  have g5 := text_name
  have g6 := none_name
  have g7 := num_text
  have g8 := name_text
  have g9 := none_text
  cases b <;> simp only [Bx.val, Bx.cell, Bx.kind]
  all_goals
    go_enter Try.func16, Try.ntmps16
    go_wp2
    go_ret
    exact ⟨rfl, rfl⟩

/-! ### Must: it answers, or it panics -/
set_option maxHeartbeats 400000 in
theorem mustNumber_yes (n : Int) (w : World) :
    Calls Try.prog 23 #[(Bx.num n).val] w fun e w' => e = .returned (.int .i64 n) ∧ w.alloc (.cells #[(Bx.num n).cell] 27) = w' := by
  have f1 := must_num
  simp only [Bx.val, Bx.cell]
  go_enter Try.func23, Try.ntmps23
  go_wp2
  go_ret
  exact ⟨rfl, rfl⟩
set_option maxHeartbeats 400000 in
theorem mustName_yes (s : ByteArray) (w : World) :
    Calls Try.prog 25 #[(Bx.name s).val] w fun e w' => e = .returned (.string s) ∧ w.alloc (.cells #[(Bx.name s).cell] 27) = w' := by
  have f1 := must_name
  simp only [Bx.val, Bx.cell]
  go_enter Try.func25, Try.ntmps25
  go_wp2
  go_ret
  exact ⟨rfl, rfl⟩
set_option maxHeartbeats 400000 in
theorem mustText_yes (s : ByteArray) (w : World) :
    Calls Try.prog 27 #[(Bx.text s).val] w fun e w' => e = .returned (.string s) ∧ w.alloc (.cells #[(Bx.text s).cell] 27) = w' := by
  have f1 := must_text
  simp only [Bx.val, Bx.cell]
  go_enter Try.func27, Try.ntmps27
  go_wp2
  go_ret
  exact ⟨rfl, rfl⟩

set_option maxHeartbeats 400000 in
theorem mustNumber_no (b : Bx) (hb : b.num?.2 = false) (w : World) :
    Calls Try.prog 23 #[b.val] w fun e w' => ∃ pv o, e = .panicked [{ v := .iface 15 pv, recovered := false }] ∧ (w.alloc (.cells #[b.cell] 27)).alloc o = w' := by
  have f1 := fun w => dies_none 3 w (by decide)
  have f2 := fun v w => dies_iface 42 3 v w (by decide)
  have f3 := fun v w => dies_iface 44 3 v w (by decide)
  cases b
  case num x => cases hb
  all_goals
    simp only [Bx.val, Bx.cell]
    clear hb
    go_enter Try.func23, Try.ntmps23
    go_wp2
    exact ⟨rfl, _, _, rfl, rfl⟩
set_option maxHeartbeats 400000 in
theorem mustName_no (b : Bx) (hb : b.name?.2 = false) (w : World) :
    Calls Try.prog 25 #[b.val] w fun e w' => ∃ pv o, e = .panicked [{ v := .iface 15 pv, recovered := false }] ∧ (w.alloc (.cells #[b.cell] 27)).alloc o = w' := by
  have f1 := fun w => dies_none 42 w (by decide)
  have f2 := fun v w => dies_iface 3 42 v w (by decide)
  have f3 := fun v w => dies_iface 44 42 v w (by decide)
  cases b
  case name x => cases hb
  all_goals
    simp only [Bx.val, Bx.cell]
    clear hb
    go_enter Try.func25, Try.ntmps25
    go_wp2
    exact ⟨rfl, _, _, rfl, rfl⟩
set_option maxHeartbeats 400000 in
theorem mustText_no (b : Bx) (hb : b.text?.2 = false) (w : World) :
    Calls Try.prog 27 #[b.val] w fun e w' => ∃ pv o, e = .panicked [{ v := .iface 15 pv, recovered := false }] ∧ (w.alloc (.cells #[b.cell] 27)).alloc o = w' := by
  have f1 := fun w => dies_none 44 w (by decide)
  have f2 := fun v w => dies_iface 3 44 v w (by decide)
  have f3 := fun v w => dies_iface 42 44 v w (by decide)
  cases b
  case text x => cases hb
  all_goals
    simp only [Bx.val, Bx.cell]
    clear hb
    go_enter Try.func27, Try.ntmps27
    go_wp2
    exact ⟨rfl, _, _, rfl, rfl⟩

/-! ### number, name, text of the law: what Must answers, and whether it did -/
theorem catch22_panicking (p : Addr) (x : Bool) (u : TypeId) (pv : Value) (older : List PanicEntry) (w : World) (hc : w.cell? p = some (.bool x)) (hz : w.frozen? p = false) :
    CallsD Try.prog 22 #[.pointer (some p)] (.panicking ({ v := .iface u pv, recovered := false } :: older)) w fun e u' w' =>
      e = .returned (.tuple #[]) ∧ u' = .panicking ({ v := .iface u pv, recovered := true } :: older) ∧ w' = w.setCell p (.bool false) := by
  refine callsD_of_wpS Try.func22 rfl fun c₀ cs hu => ?_
  apply wpS_seq
  apply wpS_region
  simp [wpOpsS, go_sem, recoverD, hu, Try.ntmps22, Exit.thenS]
  refine wpS_cond (t := true) (by simp [Act.eval, Array.replicate]) ?_
  simp only [if_true]
  apply wpS_region
  simp [wpOpsS, go_sem, hc, hz, bodyPostS, results, Try.results22]

theorem catch22_idle (p : Addr) (w : World) :
    CallsD Try.prog 22 #[.pointer (some p)] .returning w fun e u' w' => e = .returned (.tuple #[]) ∧ u' = .returning ∧ w' = w := by
  refine callsD_of_wpS Try.func22 rfl fun c₀ cs hu => ?_
  apply wpS_seq
  apply wpS_region
  simp [wpOpsS, go_sem, recoverD, hu, Try.ntmps22, Exit.thenS]
  refine wpS_cond (t := false) (by simp [Act.eval, Array.replicate]) ?_
  simp only [Bool.false_eq_true, if_false]
  refine wpS_of_wp (wp_skip ?_)
  cases c₀
  simp_all [bodyPostS, results, Try.results22]

set_option maxHeartbeats 400000 in
theorem number_yes (n : Int) (w : World) :
    Calls Try.prog 10 #[(Bx.num n).val] w fun e w' => e = .returned (.tuple #[.int .i64 n, .bool true]) ∧ Below w.heap.size w w' := by
  have hmf : ∀ (fn : Fn) (first cap : Array Value) (w : World), (Instr.makeFunc fn first cap).run Try.prog w = .ok (.func fn first cap) w := fun _ _ _ _ => rfl
  have H := Lib.hid (mustNumber_yes n)
  simp only [Bx.val, Bx.cell] at H ⊢
  go_enter_defers Try.func10, Try.ntmps10
  go_wp2_with (go_at_call 23; ((with_reducible refine (H.out _).mono ?_); rintro e w' ⟨rfl, rfl⟩))
  refine leaves_cons (f := 22) (args := #[.pointer (some ⟨w.heap.size + 1, 0, none⟩)]) (by simp) (by simp [go_sem]) ?_
  refine (catch22_idle _ _).mono ?_
  rintro e u' w'' ⟨rfl, rfl, rfl⟩
  simp [Leaves, settle, results, Try.results10, go_sem]
  exact (((Below.refl _ _).alloc (Nat.le_refl _) _).alloc (by simp) _).alloc (by simp; omega) _

set_option maxHeartbeats 400000 in
theorem number_no (b : Bx) (hb : b.num?.2 = false) (w : World) :
    Calls Try.prog 10 #[b.val] w fun e w' => e = .returned (.tuple #[.int .i64 0, .bool false]) ∧ Below w.heap.size w w' := by
  have hmf : ∀ (fn : Fn) (first cap : Array Value) (w : World), (Instr.makeFunc fn first cap).run Try.prog w = .ok (.func fn first cap) w := fun _ _ _ _ => rfl
  have H := Lib.hid (mustNumber_no b hb)
  cases b
  case num x => cases hb
  all_goals
    simp only [Bx.val, Bx.cell] at H ⊢
    clear hb
    go_enter_defers Try.func10, Try.ntmps10
    go_wp2_with (go_at_call 23; ((with_reducible refine (H.out _).mono ?_); rintro e w' ⟨pv, o, rfl, rfl⟩))
    refine leaves_cons (f := 22) (args := #[.pointer (some ⟨w.heap.size + 1, 0, none⟩)]) (by simp) (by simp [go_sem]) ?_
    refine (catch22_panicking ⟨w.heap.size + 1, 0, none⟩ false 15 pv [] _ ?_ ?_).mono ?_
    · simp [go_sem]
    · simp [go_sem]
    rintro e u' w'' ⟨rfl, rfl, rfl⟩
    simp [Leaves, settle, results, Try.results10, go_sem]
    exact ((((Below.refl _ _).alloc (Nat.le_refl _) _).alloc (by simp) _).alloc (by simp; omega) _).alloc (by simp; omega) _

theorem catch24_panicking (p : Addr) (x : Bool) (u : TypeId) (pv : Value) (older : List PanicEntry) (w : World) (hc : w.cell? p = some (.bool x)) (hz : w.frozen? p = false) :
    CallsD Try.prog 24 #[.pointer (some p)] (.panicking ({ v := .iface u pv, recovered := false } :: older)) w fun e u' w' =>
      e = .returned (.tuple #[]) ∧ u' = .panicking ({ v := .iface u pv, recovered := true } :: older) ∧ w' = w.setCell p (.bool false) := by
  refine callsD_of_wpS Try.func24 rfl fun c₀ cs hu => ?_
  apply wpS_seq
  apply wpS_region
  simp [wpOpsS, go_sem, recoverD, hu, Try.ntmps24, Exit.thenS]
  refine wpS_cond (t := true) (by simp [Act.eval, Array.replicate]) ?_
  simp only [if_true]
  apply wpS_region
  simp [wpOpsS, go_sem, hc, hz, bodyPostS, results, Try.results24]

theorem catch24_idle (p : Addr) (w : World) :
    CallsD Try.prog 24 #[.pointer (some p)] .returning w fun e u' w' => e = .returned (.tuple #[]) ∧ u' = .returning ∧ w' = w := by
  refine callsD_of_wpS Try.func24 rfl fun c₀ cs hu => ?_
  apply wpS_seq
  apply wpS_region
  simp [wpOpsS, go_sem, recoverD, hu, Try.ntmps24, Exit.thenS]
  refine wpS_cond (t := false) (by simp [Act.eval, Array.replicate]) ?_
  simp only [Bool.false_eq_true, if_false]
  refine wpS_of_wp (wp_skip ?_)
  cases c₀
  simp_all [bodyPostS, results, Try.results24]

set_option maxHeartbeats 400000 in
theorem name_yes (s : ByteArray) (w : World) :
    Calls Try.prog 11 #[(Bx.name s).val] w fun e w' => e = .returned (.tuple #[.string s, .bool true]) ∧ Below w.heap.size w w' := by
  have hmf : ∀ (fn : Fn) (first cap : Array Value) (w : World), (Instr.makeFunc fn first cap).run Try.prog w = .ok (.func fn first cap) w := fun _ _ _ _ => rfl
  have H := Lib.hid (mustName_yes s)
  simp only [Bx.val, Bx.cell] at H ⊢
  go_enter_defers Try.func11, Try.ntmps11
  go_wp2_with (go_at_call 25; ((with_reducible refine (H.out _).mono ?_); rintro e w' ⟨rfl, rfl⟩))
  refine leaves_cons (f := 24) (args := #[.pointer (some ⟨w.heap.size + 1, 0, none⟩)]) (by simp) (by simp [go_sem]) ?_
  refine (catch24_idle _ _).mono ?_
  rintro e u' w'' ⟨rfl, rfl, rfl⟩
  simp [Leaves, settle, results, Try.results11, go_sem]
  exact (((Below.refl _ _).alloc (Nat.le_refl _) _).alloc (by simp) _).alloc (by simp; omega) _

set_option maxHeartbeats 400000 in
theorem name_no (b : Bx) (hb : b.name?.2 = false) (w : World) :
    Calls Try.prog 11 #[b.val] w fun e w' => e = .returned (.tuple #[.string ⟨#[]⟩, .bool false]) ∧ Below w.heap.size w w' := by
  have hmf : ∀ (fn : Fn) (first cap : Array Value) (w : World), (Instr.makeFunc fn first cap).run Try.prog w = .ok (.func fn first cap) w := fun _ _ _ _ => rfl
  have H := Lib.hid (mustName_no b hb)
  cases b
  case name x => cases hb
  all_goals
    simp only [Bx.val, Bx.cell] at H ⊢
    clear hb
    go_enter_defers Try.func11, Try.ntmps11
    go_wp2_with (go_at_call 25; ((with_reducible refine (H.out _).mono ?_); rintro e w' ⟨pv, o, rfl, rfl⟩))
    refine leaves_cons (f := 24) (args := #[.pointer (some ⟨w.heap.size + 1, 0, none⟩)]) (by simp) (by simp [go_sem]) ?_
    refine (catch24_panicking ⟨w.heap.size + 1, 0, none⟩ false 15 pv [] _ ?_ ?_).mono ?_
    · simp [go_sem]
    · simp [go_sem]
    rintro e u' w'' ⟨rfl, rfl, rfl⟩
    simp [Leaves, settle, results, Try.results11, go_sem]
    exact ((((Below.refl _ _).alloc (Nat.le_refl _) _).alloc (by simp) _).alloc (by simp; omega) _).alloc (by simp; omega) _

theorem catch26_panicking (p : Addr) (x : Bool) (u : TypeId) (pv : Value) (older : List PanicEntry) (w : World) (hc : w.cell? p = some (.bool x)) (hz : w.frozen? p = false) :
    CallsD Try.prog 26 #[.pointer (some p)] (.panicking ({ v := .iface u pv, recovered := false } :: older)) w fun e u' w' =>
      e = .returned (.tuple #[]) ∧ u' = .panicking ({ v := .iface u pv, recovered := true } :: older) ∧ w' = w.setCell p (.bool false) := by
  refine callsD_of_wpS Try.func26 rfl fun c₀ cs hu => ?_
  apply wpS_seq
  apply wpS_region
  simp [wpOpsS, go_sem, recoverD, hu, Try.ntmps26, Exit.thenS]
  refine wpS_cond (t := true) (by simp [Act.eval, Array.replicate]) ?_
  simp only [if_true]
  apply wpS_region
  simp [wpOpsS, go_sem, hc, hz, bodyPostS, results, Try.results26]

theorem catch26_idle (p : Addr) (w : World) :
    CallsD Try.prog 26 #[.pointer (some p)] .returning w fun e u' w' => e = .returned (.tuple #[]) ∧ u' = .returning ∧ w' = w := by
  refine callsD_of_wpS Try.func26 rfl fun c₀ cs hu => ?_
  apply wpS_seq
  apply wpS_region
  simp [wpOpsS, go_sem, recoverD, hu, Try.ntmps26, Exit.thenS]
  refine wpS_cond (t := false) (by simp [Act.eval, Array.replicate]) ?_
  simp only [Bool.false_eq_true, if_false]
  refine wpS_of_wp (wp_skip ?_)
  cases c₀
  simp_all [bodyPostS, results, Try.results26]

set_option maxHeartbeats 400000 in
theorem text_yes (s : ByteArray) (w : World) :
    Calls Try.prog 12 #[(Bx.text s).val] w fun e w' => e = .returned (.tuple #[.string s, .bool true]) ∧ Below w.heap.size w w' := by
  have hmf : ∀ (fn : Fn) (first cap : Array Value) (w : World), (Instr.makeFunc fn first cap).run Try.prog w = .ok (.func fn first cap) w := fun _ _ _ _ => rfl
  have H := Lib.hid (mustText_yes s)
  simp only [Bx.val, Bx.cell] at H ⊢
  go_enter_defers Try.func12, Try.ntmps12
  go_wp2_with (go_at_call 27; ((with_reducible refine (H.out _).mono ?_); rintro e w' ⟨rfl, rfl⟩))
  refine leaves_cons (f := 26) (args := #[.pointer (some ⟨w.heap.size + 1, 0, none⟩)]) (by simp) (by simp [go_sem]) ?_
  refine (catch26_idle _ _).mono ?_
  rintro e u' w'' ⟨rfl, rfl, rfl⟩
  simp [Leaves, settle, results, Try.results12, go_sem]
  exact (((Below.refl _ _).alloc (Nat.le_refl _) _).alloc (by simp) _).alloc (by simp; omega) _

set_option maxHeartbeats 400000 in
theorem text_no (b : Bx) (hb : b.text?.2 = false) (w : World) :
    Calls Try.prog 12 #[b.val] w fun e w' => e = .returned (.tuple #[.string ⟨#[]⟩, .bool false]) ∧ Below w.heap.size w w' := by
  have hmf : ∀ (fn : Fn) (first cap : Array Value) (w : World), (Instr.makeFunc fn first cap).run Try.prog w = .ok (.func fn first cap) w := fun _ _ _ _ => rfl
  have H := Lib.hid (mustText_no b hb)
  cases b
  case text x => cases hb
  all_goals
    simp only [Bx.val, Bx.cell] at H ⊢
    clear hb
    go_enter_defers Try.func12, Try.ntmps12
    go_wp2_with (go_at_call 27; ((with_reducible refine (H.out _).mono ?_); rintro e w' ⟨pv, o, rfl, rfl⟩))
    refine leaves_cons (f := 26) (args := #[.pointer (some ⟨w.heap.size + 1, 0, none⟩)]) (by simp) (by simp [go_sem]) ?_
    refine (catch26_panicking ⟨w.heap.size + 1, 0, none⟩ false 15 pv [] _ ?_ ?_).mono ?_
    · simp [go_sem]
    · simp [go_sem]
    rintro e u' w'' ⟨rfl, rfl, rfl⟩
    simp [Leaves, settle, results, Try.results12, go_sem]
    exact ((((Below.refl _ _).alloc (Nat.le_refl _) _).alloc (by simp) _).alloc (by simp; omega) _).alloc (by simp; omega) _

end Go.Proofs.Ytcaomobbpgpplaa
