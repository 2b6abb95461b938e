/- The types and functions of this seat's program as the walk by evaluation needs them: a table by program (table.py), each row held against the program by the kernel. -/
import Derived.Test.YthghiokcinpnlaaDoorProg
import Derived.Test.YthghiokcinpnlaaDoorEvSoundC
import Derived.KernelRfl
namespace Go.Proofs.YthghiokcinpnlaaDoor
open Go Go.Ev
set_option maxRecDepth 100000
set_option linter.unusedVariables false
theorem mkOk {P : Program} {t : TypeId} {ty : Ty} {n b : Nat} {z : Value} (h : (P.info? t).map (fun i => (i.zero, i.size, i.bytes)) = some (some z, n, b)) (hty : TyOk P t ty) (hz : z.cells.size = n) (h1 : ty.isAgg = false → z.cells.size = 1) : InfOk P t ⟨ty, n, b, z⟩ := by
  cases hi : P.info? t with
  | none => rw [hi] at h; cases h
  | some pi =>
    rw [hi] at h
    simp only [Option.map_some, Option.some.injEq, Prod.mk.injEq] at h
    exact ⟨⟨pi, hi, h.2.1, h.2.2, h.1⟩, hty, hz, fun h' _ => h1 h'⟩
theorem mkStruct {P : Program} {t : TypeId} {fs : List (Nat × Nat)} (h : (P.underlying t).bind (fun d => match d with | .struct F => some (F.toList.map fun f => (f.offset, f.type)) | _ => none) = some fs) : TyOk P t (.struct fs) := by
  cases hu : P.underlying t with
  | none => rw [hu] at h; cases h
  | some d => rw [hu] at h; cases d <;> first | exact ⟨_, hu, Option.some.inj h⟩ | cases h
theorem mkFunc {P : Program} {t : TypeId} (h : (match P.underlying t with | some (.func ..) => true | _ => false) = true) : TyOk P t .func := by
  cases hu : P.underlying t with
  | none => rw [hu] at h; cases h
  | some d => rw [hu] at h; cases d <;> first | exact ⟨_, _, _, hu⟩ | cases h
theorem mkIface {P : Program} {t : TypeId} (h : (match P.underlying t with | some (.interface ..) => true | _ => false) = true) : TyOk P t .iface := by
  cases hu : P.underlying t with
  | none => rw [hu] at h; cases h
  | some d => rw [hu] at h; cases d <;> first | exact ⟨_, hu⟩ | cases h
theorem node {C : Prop} {c : Bool} {A B : Option Inf} {i : Inf} (h : (bif c then A else B) = some i) (ha : A = some i → C) (hb : B = some i → C) : C := by
  cases c
  · exact hb h
  · exact ha h
theorem leaf {P : Program} {t u : Nat} {x i : Inf} (h : (bif Nat.beq t u then some x else none) = some i) (hx : InfOk P u x) : InfOk P t i := by
  cases hb : Nat.beq t u with
  | false => rw [hb] at h; cases h
  | true => rw [hb] at h; cases h; rw [Nat.beq_eq.mp hb]; exact hx
theorem extAll {P : Program} {ext : Nat → Bool} {n : Nat} (h : (List.range n).all (fun g => ext g || entersB P g) = true) (hn : ∀ g, n ≤ g → ext g = true) : ExtOk P ext := by
  intro g hg
  by_cases hlt : g < n
  · rw [List.all_eq_true] at h
    have := h g (by simpa using hlt)
    simpa [hg] using this
  · rw [hn g (by omega)] at hg; cases hg
def inf1 : Inf := ⟨.func, 1, 8, .nilFunc⟩
theorem ok1 : InfOk Tryd.prog 1 inf1 := mkOk (by kernel_rfl) (mkFunc (by kernel_rfl)) (by kernel_rfl) (fun _ => by kernel_rfl)
def inf2 : Inf := ⟨(.int .i64), 1, 8, (.int .i64 0)⟩
theorem ok2 : InfOk Tryd.prog 2 inf2 := mkOk (by kernel_rfl) (show Tryd.prog.underlying 2 = some (.int .i64) by kernel_rfl) (by kernel_rfl) (fun _ => by kernel_rfl)
def inf3 : Inf := ⟨(.int .i64), 1, 8, (.int .i64 0)⟩
theorem ok3 : InfOk Tryd.prog 3 inf3 := mkOk (by kernel_rfl) (show Tryd.prog.underlying 3 = some (.int .i64) by kernel_rfl) (by kernel_rfl) (fun _ => by kernel_rfl)
def inf4 : Inf := ⟨.bool, 1, 1, (.bool false)⟩
theorem ok4 : InfOk Tryd.prog 4 inf4 := mkOk (by kernel_rfl) (show Tryd.prog.underlying 4 = some .bool by kernel_rfl) (by kernel_rfl) (fun _ => by kernel_rfl)
def inf5 : Inf := ⟨(.int .u8), 1, 1, (.int .u8 0)⟩
theorem ok5 : InfOk Tryd.prog 5 inf5 := mkOk (by kernel_rfl) (show Tryd.prog.underlying 5 = some (.int .u8) by kernel_rfl) (by kernel_rfl) (fun _ => by kernel_rfl)
def inf6 : Inf := ⟨(.int .u8), 1, 1, (.int .u8 0)⟩
theorem ok6 : InfOk Tryd.prog 6 inf6 := mkOk (by kernel_rfl) (show Tryd.prog.underlying 6 = some (.int .u8) by kernel_rfl) (by kernel_rfl) (fun _ => by kernel_rfl)
def inf7 : Inf := ⟨(.struct [(0, 2), (1, 3), (2, 4), (3, 6)]), 4, 24, (.agg #[(.int .i64 0), (.int .i64 0), (.bool false), (.int .u8 0)])⟩
theorem ok7 : InfOk Tryd.prog 7 inf7 := mkOk (by kernel_rfl) (mkStruct (by kernel_rfl)) (by kernel_rfl) (fun h => by cases h)
def inf8 : Inf := ⟨(.struct [(0, 2), (1, 3), (2, 4), (3, 6)]), 4, 24, (.agg #[(.int .i64 0), (.int .i64 0), (.bool false), (.int .u8 0)])⟩
theorem ok8 : InfOk Tryd.prog 8 inf8 := mkOk (by kernel_rfl) (mkStruct (by kernel_rfl)) (by kernel_rfl) (fun h => by cases h)
def inf9 : Inf := ⟨.string, 1, 16, (.string .empty)⟩
theorem ok9 : InfOk Tryd.prog 9 inf9 := mkOk (by kernel_rfl) (show Tryd.prog.underlying 9 = some .string by kernel_rfl) (by kernel_rfl) (fun _ => by kernel_rfl)
def inf10 : Inf := ⟨.string, 1, 16, (.string .empty)⟩
theorem ok10 : InfOk Tryd.prog 10 inf10 := mkOk (by kernel_rfl) (show Tryd.prog.underlying 10 = some .string by kernel_rfl) (by kernel_rfl) (fun _ => by kernel_rfl)
def inf11 : Inf := ⟨.string, 1, 16, (.string .empty)⟩
theorem ok11 : InfOk Tryd.prog 11 inf11 := mkOk (by kernel_rfl) (show Tryd.prog.underlying 11 = some .string by kernel_rfl) (by kernel_rfl) (fun _ => by kernel_rfl)
def inf12 : Inf := ⟨(.int .u64), 1, 8, (.int .u64 0)⟩
theorem ok12 : InfOk Tryd.prog 12 inf12 := mkOk (by kernel_rfl) (show Tryd.prog.underlying 12 = some (.int .u64) by kernel_rfl) (by kernel_rfl) (fun _ => by kernel_rfl)
def inf13 : Inf := ⟨(.struct [(0, 9), (1, 12)]), 2, 24, (.agg #[(.string .empty), (.int .u64 0)])⟩
theorem ok13 : InfOk Tryd.prog 13 inf13 := mkOk (by kernel_rfl) (mkStruct (by kernel_rfl)) (by kernel_rfl) (fun h => by cases h)
def inf14 : Inf := ⟨(.struct [(0, 9), (1, 12)]), 2, 24, (.agg #[(.string .empty), (.int .u64 0)])⟩
theorem ok14 : InfOk Tryd.prog 14 inf14 := mkOk (by kernel_rfl) (mkStruct (by kernel_rfl)) (by kernel_rfl) (fun h => by cases h)
def inf15 : Inf := ⟨(.ptr 119), 1, 8, (.pointer none)⟩
theorem ok15 : InfOk Tryd.prog 15 inf15 := mkOk (by kernel_rfl) (show Tryd.prog.underlying 15 = some (.pointer 119) by kernel_rfl) (by kernel_rfl) (fun _ => by kernel_rfl)
def inf16 : Inf := ⟨(.ptr 122), 1, 8, (.pointer none)⟩
theorem ok16 : InfOk Tryd.prog 16 inf16 := mkOk (by kernel_rfl) (show Tryd.prog.underlying 16 = some (.pointer 122) by kernel_rfl) (by kernel_rfl) (fun _ => by kernel_rfl)
def inf17 : Inf := ⟨(.ptr 130), 1, 8, (.pointer none)⟩
theorem ok17 : InfOk Tryd.prog 17 inf17 := mkOk (by kernel_rfl) (show Tryd.prog.underlying 17 = some (.pointer 130) by kernel_rfl) (by kernel_rfl) (fun _ => by kernel_rfl)
def inf18 : Inf := ⟨(.struct [(0, 17)]), 1, 8, (.agg #[(.pointer none)])⟩
theorem ok18 : InfOk Tryd.prog 18 inf18 := mkOk (by kernel_rfl) (mkStruct (by kernel_rfl)) (by kernel_rfl) (fun h => by cases h)
def inf19 : Inf := ⟨(.struct [(0, 17)]), 1, 8, (.agg #[(.pointer none)])⟩
theorem ok19 : InfOk Tryd.prog 19 inf19 := mkOk (by kernel_rfl) (mkStruct (by kernel_rfl)) (by kernel_rfl) (fun h => by cases h)
def inf20 : Inf := ⟨.iface, 1, 16, .nilIface⟩
theorem ok20 : InfOk Tryd.prog 20 inf20 := mkOk (by kernel_rfl) (mkIface (by kernel_rfl)) (by kernel_rfl) (fun _ => by kernel_rfl)
def inf21 : Inf := ⟨(.int .i32), 1, 4, (.int .i32 0)⟩
theorem ok21 : InfOk Tryd.prog 21 inf21 := mkOk (by kernel_rfl) (show Tryd.prog.underlying 21 = some (.int .i32) by kernel_rfl) (by kernel_rfl) (fun _ => by kernel_rfl)
def inf22 : Inf := ⟨(.slice 5), 1, 24, (.slice none 0 0)⟩
theorem ok22 : InfOk Tryd.prog 22 inf22 := mkOk (by kernel_rfl) (show Tryd.prog.underlying 22 = some (.slice 5) by kernel_rfl) (by kernel_rfl) (fun _ => by kernel_rfl)
def inf23 : Inf := ⟨.func, 1, 8, .nilFunc⟩
theorem ok23 : InfOk Tryd.prog 23 inf23 := mkOk (by kernel_rfl) (mkFunc (by kernel_rfl)) (by kernel_rfl) (fun _ => by kernel_rfl)
def inf24 : Inf := ⟨.func, 1, 8, .nilFunc⟩
theorem ok24 : InfOk Tryd.prog 24 inf24 := mkOk (by kernel_rfl) (mkFunc (by kernel_rfl)) (by kernel_rfl) (fun _ => by kernel_rfl)
def inf25 : Inf := ⟨(.ptr 42), 1, 8, (.pointer none)⟩
theorem ok25 : InfOk Tryd.prog 25 inf25 := mkOk (by kernel_rfl) (show Tryd.prog.underlying 25 = some (.pointer 42) by kernel_rfl) (by kernel_rfl) (fun _ => by kernel_rfl)
def inf26 : Inf := ⟨.func, 1, 8, .nilFunc⟩
theorem ok26 : InfOk Tryd.prog 26 inf26 := mkOk (by kernel_rfl) (mkFunc (by kernel_rfl)) (by kernel_rfl) (fun _ => by kernel_rfl)
def inf27 : Inf := ⟨(.ptr 44), 1, 8, (.pointer none)⟩
theorem ok27 : InfOk Tryd.prog 27 inf27 := mkOk (by kernel_rfl) (show Tryd.prog.underlying 27 = some (.pointer 44) by kernel_rfl) (by kernel_rfl) (fun _ => by kernel_rfl)
def inf28 : Inf := ⟨.func, 1, 8, .nilFunc⟩
theorem ok28 : InfOk Tryd.prog 28 inf28 := mkOk (by kernel_rfl) (mkFunc (by kernel_rfl)) (by kernel_rfl) (fun _ => by kernel_rfl)
def inf29 : Inf := ⟨.func, 1, 8, .nilFunc⟩
theorem ok29 : InfOk Tryd.prog 29 inf29 := mkOk (by kernel_rfl) (mkFunc (by kernel_rfl)) (by kernel_rfl) (fun _ => by kernel_rfl)
def inf30 : Inf := ⟨.func, 1, 8, .nilFunc⟩
theorem ok30 : InfOk Tryd.prog 30 inf30 := mkOk (by kernel_rfl) (mkFunc (by kernel_rfl)) (by kernel_rfl) (fun _ => by kernel_rfl)
def inf31 : Inf := ⟨.func, 1, 8, .nilFunc⟩
theorem ok31 : InfOk Tryd.prog 31 inf31 := mkOk (by kernel_rfl) (mkFunc (by kernel_rfl)) (by kernel_rfl) (fun _ => by kernel_rfl)
def inf32 : Inf := ⟨.func, 1, 8, .nilFunc⟩
theorem ok32 : InfOk Tryd.prog 32 inf32 := mkOk (by kernel_rfl) (mkFunc (by kernel_rfl)) (by kernel_rfl) (fun _ => by kernel_rfl)
def inf33 : Inf := ⟨.func, 1, 8, .nilFunc⟩
theorem ok33 : InfOk Tryd.prog 33 inf33 := mkOk (by kernel_rfl) (mkFunc (by kernel_rfl)) (by kernel_rfl) (fun _ => by kernel_rfl)
def inf34 : Inf := ⟨.func, 1, 8, .nilFunc⟩
theorem ok34 : InfOk Tryd.prog 34 inf34 := mkOk (by kernel_rfl) (mkFunc (by kernel_rfl)) (by kernel_rfl) (fun _ => by kernel_rfl)
def inf35 : Inf := ⟨(.slice 39), 1, 24, (.slice none 0 0)⟩
theorem ok35 : InfOk Tryd.prog 35 inf35 := mkOk (by kernel_rfl) (show Tryd.prog.underlying 35 = some (.slice 39) by kernel_rfl) (by kernel_rfl) (fun _ => by kernel_rfl)
def inf36 : Inf := ⟨(.slice 39), 1, 24, (.slice none 0 0)⟩
theorem ok36 : InfOk Tryd.prog 36 inf36 := mkOk (by kernel_rfl) (show Tryd.prog.underlying 36 = some (.slice 39) by kernel_rfl) (by kernel_rfl) (fun _ => by kernel_rfl)
def inf38 : Inf := ⟨.func, 1, 8, .nilFunc⟩
theorem ok38 : InfOk Tryd.prog 38 inf38 := mkOk (by kernel_rfl) (mkFunc (by kernel_rfl)) (by kernel_rfl) (fun _ => by kernel_rfl)
def inf39 : Inf := ⟨(.int .u64), 1, 8, (.int .u64 0)⟩
theorem ok39 : InfOk Tryd.prog 39 inf39 := mkOk (by kernel_rfl) (show Tryd.prog.underlying 39 = some (.int .u64) by kernel_rfl) (by kernel_rfl) (fun _ => by kernel_rfl)
def inf40 : Inf := ⟨.func, 1, 8, .nilFunc⟩
theorem ok40 : InfOk Tryd.prog 40 inf40 := mkOk (by kernel_rfl) (mkFunc (by kernel_rfl)) (by kernel_rfl) (fun _ => by kernel_rfl)
def inf41 : Inf := ⟨(.struct [(0, 22), (1, 22), (2, 3)]), 3, 56, (.agg #[(.slice none 0 0), (.slice none 0 0), (.int .i64 0)])⟩
theorem ok41 : InfOk Tryd.prog 41 inf41 := mkOk (by kernel_rfl) (mkStruct (by kernel_rfl)) (by kernel_rfl) (fun h => by cases h)
def inf42 : Inf := ⟨(.struct [(0, 22), (1, 22), (2, 3)]), 3, 56, (.agg #[(.slice none 0 0), (.slice none 0 0), (.int .i64 0)])⟩
theorem ok42 : InfOk Tryd.prog 42 inf42 := mkOk (by kernel_rfl) (mkStruct (by kernel_rfl)) (by kernel_rfl) (fun h => by cases h)
def inf43 : Inf := ⟨(.struct [(0, 22), (1, 22), (2, 3)]), 3, 56, (.agg #[(.slice none 0 0), (.slice none 0 0), (.int .i64 0)])⟩
theorem ok43 : InfOk Tryd.prog 43 inf43 := mkOk (by kernel_rfl) (mkStruct (by kernel_rfl)) (by kernel_rfl) (fun h => by cases h)
def inf44 : Inf := ⟨(.struct [(0, 22), (1, 22), (2, 3)]), 3, 56, (.agg #[(.slice none 0 0), (.slice none 0 0), (.int .i64 0)])⟩
theorem ok44 : InfOk Tryd.prog 44 inf44 := mkOk (by kernel_rfl) (mkStruct (by kernel_rfl)) (by kernel_rfl) (fun h => by cases h)
def inf45 : Inf := ⟨.func, 1, 8, .nilFunc⟩
theorem ok45 : InfOk Tryd.prog 45 inf45 := mkOk (by kernel_rfl) (mkFunc (by kernel_rfl)) (by kernel_rfl) (fun _ => by kernel_rfl)
def inf46 : Inf := ⟨.func, 1, 8, .nilFunc⟩
theorem ok46 : InfOk Tryd.prog 46 inf46 := mkOk (by kernel_rfl) (mkFunc (by kernel_rfl)) (by kernel_rfl) (fun _ => by kernel_rfl)
def inf47 : Inf := ⟨.func, 1, 8, .nilFunc⟩
theorem ok47 : InfOk Tryd.prog 47 inf47 := mkOk (by kernel_rfl) (mkFunc (by kernel_rfl)) (by kernel_rfl) (fun _ => by kernel_rfl)
def inf48 : Inf := ⟨.func, 1, 8, .nilFunc⟩
theorem ok48 : InfOk Tryd.prog 48 inf48 := mkOk (by kernel_rfl) (mkFunc (by kernel_rfl)) (by kernel_rfl) (fun _ => by kernel_rfl)
def inf50 : Inf := ⟨.func, 1, 8, .nilFunc⟩
theorem ok50 : InfOk Tryd.prog 50 inf50 := mkOk (by kernel_rfl) (mkFunc (by kernel_rfl)) (by kernel_rfl) (fun _ => by kernel_rfl)
def inf51 : Inf := ⟨.func, 1, 8, .nilFunc⟩
theorem ok51 : InfOk Tryd.prog 51 inf51 := mkOk (by kernel_rfl) (mkFunc (by kernel_rfl)) (by kernel_rfl) (fun _ => by kernel_rfl)
def inf52 : Inf := ⟨(.int .u64), 1, 8, (.int .u64 0)⟩
theorem ok52 : InfOk Tryd.prog 52 inf52 := mkOk (by kernel_rfl) (show Tryd.prog.underlying 52 = some (.int .u64) by kernel_rfl) (by kernel_rfl) (fun _ => by kernel_rfl)
def inf54 : Inf := ⟨.func, 1, 8, .nilFunc⟩
theorem ok54 : InfOk Tryd.prog 54 inf54 := mkOk (by kernel_rfl) (mkFunc (by kernel_rfl)) (by kernel_rfl) (fun _ => by kernel_rfl)
def inf55 : Inf := ⟨(.slice 22), 1, 24, (.slice none 0 0)⟩
theorem ok55 : InfOk Tryd.prog 55 inf55 := mkOk (by kernel_rfl) (show Tryd.prog.underlying 55 = some (.slice 22) by kernel_rfl) (by kernel_rfl) (fun _ => by kernel_rfl)
def inf56 : Inf := ⟨.func, 1, 8, .nilFunc⟩
theorem ok56 : InfOk Tryd.prog 56 inf56 := mkOk (by kernel_rfl) (mkFunc (by kernel_rfl)) (by kernel_rfl) (fun _ => by kernel_rfl)
def inf57 : Inf := ⟨.func, 1, 8, .nilFunc⟩
theorem ok57 : InfOk Tryd.prog 57 inf57 := mkOk (by kernel_rfl) (mkFunc (by kernel_rfl)) (by kernel_rfl) (fun _ => by kernel_rfl)
def inf58 : Inf := ⟨.func, 1, 8, .nilFunc⟩
theorem ok58 : InfOk Tryd.prog 58 inf58 := mkOk (by kernel_rfl) (mkFunc (by kernel_rfl)) (by kernel_rfl) (fun _ => by kernel_rfl)
def inf59 : Inf := ⟨.func, 1, 8, .nilFunc⟩
theorem ok59 : InfOk Tryd.prog 59 inf59 := mkOk (by kernel_rfl) (mkFunc (by kernel_rfl)) (by kernel_rfl) (fun _ => by kernel_rfl)
def inf60 : Inf := ⟨.func, 1, 8, .nilFunc⟩
theorem ok60 : InfOk Tryd.prog 60 inf60 := mkOk (by kernel_rfl) (mkFunc (by kernel_rfl)) (by kernel_rfl) (fun _ => by kernel_rfl)
def inf61 : Inf := ⟨.func, 1, 8, .nilFunc⟩
theorem ok61 : InfOk Tryd.prog 61 inf61 := mkOk (by kernel_rfl) (mkFunc (by kernel_rfl)) (by kernel_rfl) (fun _ => by kernel_rfl)
def inf63 : Inf := ⟨.func, 1, 8, .nilFunc⟩
theorem ok63 : InfOk Tryd.prog 63 inf63 := mkOk (by kernel_rfl) (mkFunc (by kernel_rfl)) (by kernel_rfl) (fun _ => by kernel_rfl)
def inf64 : Inf := ⟨.func, 1, 8, .nilFunc⟩
theorem ok64 : InfOk Tryd.prog 64 inf64 := mkOk (by kernel_rfl) (mkFunc (by kernel_rfl)) (by kernel_rfl) (fun _ => by kernel_rfl)
def inf65 : Inf := ⟨.func, 1, 8, .nilFunc⟩
theorem ok65 : InfOk Tryd.prog 65 inf65 := mkOk (by kernel_rfl) (mkFunc (by kernel_rfl)) (by kernel_rfl) (fun _ => by kernel_rfl)
def inf66 : Inf := ⟨.func, 1, 8, .nilFunc⟩
theorem ok66 : InfOk Tryd.prog 66 inf66 := mkOk (by kernel_rfl) (mkFunc (by kernel_rfl)) (by kernel_rfl) (fun _ => by kernel_rfl)
def inf67 : Inf := ⟨.func, 1, 8, .nilFunc⟩
theorem ok67 : InfOk Tryd.prog 67 inf67 := mkOk (by kernel_rfl) (mkFunc (by kernel_rfl)) (by kernel_rfl) (fun _ => by kernel_rfl)
def inf68 : Inf := ⟨.func, 1, 8, .nilFunc⟩
theorem ok68 : InfOk Tryd.prog 68 inf68 := mkOk (by kernel_rfl) (mkFunc (by kernel_rfl)) (by kernel_rfl) (fun _ => by kernel_rfl)
def inf69 : Inf := ⟨(.int .u32), 1, 4, (.int .u32 0)⟩
theorem ok69 : InfOk Tryd.prog 69 inf69 := mkOk (by kernel_rfl) (show Tryd.prog.underlying 69 = some (.int .u32) by kernel_rfl) (by kernel_rfl) (fun _ => by kernel_rfl)
def inf71 : Inf := ⟨.func, 1, 8, .nilFunc⟩
theorem ok71 : InfOk Tryd.prog 71 inf71 := mkOk (by kernel_rfl) (mkFunc (by kernel_rfl)) (by kernel_rfl) (fun _ => by kernel_rfl)
def inf73 : Inf := ⟨.func, 1, 8, .nilFunc⟩
theorem ok73 : InfOk Tryd.prog 73 inf73 := mkOk (by kernel_rfl) (mkFunc (by kernel_rfl)) (by kernel_rfl) (fun _ => by kernel_rfl)
def inf74 : Inf := ⟨.func, 1, 8, .nilFunc⟩
theorem ok74 : InfOk Tryd.prog 74 inf74 := mkOk (by kernel_rfl) (mkFunc (by kernel_rfl)) (by kernel_rfl) (fun _ => by kernel_rfl)
def inf75 : Inf := ⟨.func, 1, 8, .nilFunc⟩
theorem ok75 : InfOk Tryd.prog 75 inf75 := mkOk (by kernel_rfl) (mkFunc (by kernel_rfl)) (by kernel_rfl) (fun _ => by kernel_rfl)
def inf76 : Inf := ⟨(.ptr 101), 1, 8, (.pointer none)⟩
theorem ok76 : InfOk Tryd.prog 76 inf76 := mkOk (by kernel_rfl) (show Tryd.prog.underlying 76 = some (.pointer 101) by kernel_rfl) (by kernel_rfl) (fun _ => by kernel_rfl)
def inf77 : Inf := ⟨(.struct [(0, 76), (1, 76)]), 2, 16, (.agg #[(.pointer none), (.pointer none)])⟩
theorem ok77 : InfOk Tryd.prog 77 inf77 := mkOk (by kernel_rfl) (mkStruct (by kernel_rfl)) (by kernel_rfl) (fun h => by cases h)
def inf78 : Inf := ⟨(.struct [(0, 76), (1, 76)]), 2, 16, (.agg #[(.pointer none), (.pointer none)])⟩
theorem ok78 : InfOk Tryd.prog 78 inf78 := mkOk (by kernel_rfl) (mkStruct (by kernel_rfl)) (by kernel_rfl) (fun h => by cases h)
def inf79 : Inf := ⟨.func, 1, 8, .nilFunc⟩
theorem ok79 : InfOk Tryd.prog 79 inf79 := mkOk (by kernel_rfl) (mkFunc (by kernel_rfl)) (by kernel_rfl) (fun _ => by kernel_rfl)
def inf80 : Inf := ⟨.func, 1, 8, .nilFunc⟩
theorem ok80 : InfOk Tryd.prog 80 inf80 := mkOk (by kernel_rfl) (mkFunc (by kernel_rfl)) (by kernel_rfl) (fun _ => by kernel_rfl)
def inf81 : Inf := ⟨.func, 1, 8, .nilFunc⟩
theorem ok81 : InfOk Tryd.prog 81 inf81 := mkOk (by kernel_rfl) (mkFunc (by kernel_rfl)) (by kernel_rfl) (fun _ => by kernel_rfl)
def inf82 : Inf := ⟨.func, 1, 8, .nilFunc⟩
theorem ok82 : InfOk Tryd.prog 82 inf82 := mkOk (by kernel_rfl) (mkFunc (by kernel_rfl)) (by kernel_rfl) (fun _ => by kernel_rfl)
def inf83 : Inf := ⟨(.slice 69), 1, 24, (.slice none 0 0)⟩
theorem ok83 : InfOk Tryd.prog 83 inf83 := mkOk (by kernel_rfl) (show Tryd.prog.underlying 83 = some (.slice 69) by kernel_rfl) (by kernel_rfl) (fun _ => by kernel_rfl)
def inf84 : Inf := ⟨.func, 1, 8, .nilFunc⟩
theorem ok84 : InfOk Tryd.prog 84 inf84 := mkOk (by kernel_rfl) (mkFunc (by kernel_rfl)) (by kernel_rfl) (fun _ => by kernel_rfl)
def inf85 : Inf := ⟨.func, 1, 8, .nilFunc⟩
theorem ok85 : InfOk Tryd.prog 85 inf85 := mkOk (by kernel_rfl) (mkFunc (by kernel_rfl)) (by kernel_rfl) (fun _ => by kernel_rfl)
def inf86 : Inf := ⟨.func, 1, 8, .nilFunc⟩
theorem ok86 : InfOk Tryd.prog 86 inf86 := mkOk (by kernel_rfl) (mkFunc (by kernel_rfl)) (by kernel_rfl) (fun _ => by kernel_rfl)
def inf87 : Inf := ⟨.func, 1, 8, .nilFunc⟩
theorem ok87 : InfOk Tryd.prog 87 inf87 := mkOk (by kernel_rfl) (mkFunc (by kernel_rfl)) (by kernel_rfl) (fun _ => by kernel_rfl)
def inf88 : Inf := ⟨.func, 1, 8, .nilFunc⟩
theorem ok88 : InfOk Tryd.prog 88 inf88 := mkOk (by kernel_rfl) (mkFunc (by kernel_rfl)) (by kernel_rfl) (fun _ => by kernel_rfl)
def inf89 : Inf := ⟨.iface, 1, 16, .nilIface⟩
theorem ok89 : InfOk Tryd.prog 89 inf89 := mkOk (by kernel_rfl) (mkIface (by kernel_rfl)) (by kernel_rfl) (fun _ => by kernel_rfl)
def inf90 : Inf := ⟨.iface, 1, 16, .nilIface⟩
theorem ok90 : InfOk Tryd.prog 90 inf90 := mkOk (by kernel_rfl) (mkIface (by kernel_rfl)) (by kernel_rfl) (fun _ => by kernel_rfl)
def inf91 : Inf := ⟨.func, 1, 8, .nilFunc⟩
theorem ok91 : InfOk Tryd.prog 91 inf91 := mkOk (by kernel_rfl) (mkFunc (by kernel_rfl)) (by kernel_rfl) (fun _ => by kernel_rfl)
def inf92 : Inf := ⟨.func, 1, 8, .nilFunc⟩
theorem ok92 : InfOk Tryd.prog 92 inf92 := mkOk (by kernel_rfl) (mkFunc (by kernel_rfl)) (by kernel_rfl) (fun _ => by kernel_rfl)
def inf93 : Inf := ⟨.func, 1, 8, .nilFunc⟩
theorem ok93 : InfOk Tryd.prog 93 inf93 := mkOk (by kernel_rfl) (mkFunc (by kernel_rfl)) (by kernel_rfl) (fun _ => by kernel_rfl)
def inf94 : Inf := ⟨.func, 1, 8, .nilFunc⟩
theorem ok94 : InfOk Tryd.prog 94 inf94 := mkOk (by kernel_rfl) (mkFunc (by kernel_rfl)) (by kernel_rfl) (fun _ => by kernel_rfl)
def inf95 : Inf := ⟨.func, 1, 8, .nilFunc⟩
theorem ok95 : InfOk Tryd.prog 95 inf95 := mkOk (by kernel_rfl) (mkFunc (by kernel_rfl)) (by kernel_rfl) (fun _ => by kernel_rfl)
def inf96 : Inf := ⟨.func, 1, 8, .nilFunc⟩
theorem ok96 : InfOk Tryd.prog 96 inf96 := mkOk (by kernel_rfl) (mkFunc (by kernel_rfl)) (by kernel_rfl) (fun _ => by kernel_rfl)
def inf97 : Inf := ⟨.func, 1, 8, .nilFunc⟩
theorem ok97 : InfOk Tryd.prog 97 inf97 := mkOk (by kernel_rfl) (mkFunc (by kernel_rfl)) (by kernel_rfl) (fun _ => by kernel_rfl)
def inf98 : Inf := ⟨(.arr 8 39), 8, 64, (.agg (List.replicate 8 (.int .u64 0)).toArray)⟩
theorem ok98 : InfOk Tryd.prog 98 inf98 := mkOk (by kernel_rfl) (show Tryd.prog.underlying 98 = some (.array 8 39) by kernel_rfl) (by kernel_rfl) (fun h => by cases h)
def inf99 : Inf := ⟨.func, 1, 8, .nilFunc⟩
theorem ok99 : InfOk Tryd.prog 99 inf99 := mkOk (by kernel_rfl) (mkFunc (by kernel_rfl)) (by kernel_rfl) (fun _ => by kernel_rfl)
def inf100 : Inf := ⟨(.struct [(0, 3), (1, 98), (9, 22), (10, 39)]), 11, 104, (.agg #[(.int .i64 0), (.int .u64 0), (.int .u64 0), (.int .u64 0), (.int .u64 0), (.int .u64 0), (.int .u64 0), (.int .u64 0), (.int .u64 0), (.slice none 0 0), (.int .u64 0)])⟩
theorem ok100 : InfOk Tryd.prog 100 inf100 := mkOk (by kernel_rfl) (mkStruct (by kernel_rfl)) (by kernel_rfl) (fun h => by cases h)
def inf101 : Inf := ⟨(.struct [(0, 3), (1, 98), (9, 22), (10, 39)]), 11, 104, (.agg #[(.int .i64 0), (.int .u64 0), (.int .u64 0), (.int .u64 0), (.int .u64 0), (.int .u64 0), (.int .u64 0), (.int .u64 0), (.int .u64 0), (.slice none 0 0), (.int .u64 0)])⟩
theorem ok101 : InfOk Tryd.prog 101 inf101 := mkOk (by kernel_rfl) (mkStruct (by kernel_rfl)) (by kernel_rfl) (fun h => by cases h)
def inf102 : Inf := ⟨.func, 1, 8, .nilFunc⟩
theorem ok102 : InfOk Tryd.prog 102 inf102 := mkOk (by kernel_rfl) (mkFunc (by kernel_rfl)) (by kernel_rfl) (fun _ => by kernel_rfl)
def inf103 : Inf := ⟨.func, 1, 8, .nilFunc⟩
theorem ok103 : InfOk Tryd.prog 103 inf103 := mkOk (by kernel_rfl) (mkFunc (by kernel_rfl)) (by kernel_rfl) (fun _ => by kernel_rfl)
def inf104 : Inf := ⟨.func, 1, 8, .nilFunc⟩
theorem ok104 : InfOk Tryd.prog 104 inf104 := mkOk (by kernel_rfl) (mkFunc (by kernel_rfl)) (by kernel_rfl) (fun _ => by kernel_rfl)
def inf105 : Inf := ⟨.func, 1, 8, .nilFunc⟩
theorem ok105 : InfOk Tryd.prog 105 inf105 := mkOk (by kernel_rfl) (mkFunc (by kernel_rfl)) (by kernel_rfl) (fun _ => by kernel_rfl)
def inf106 : Inf := ⟨.func, 1, 8, .nilFunc⟩
theorem ok106 : InfOk Tryd.prog 106 inf106 := mkOk (by kernel_rfl) (mkFunc (by kernel_rfl)) (by kernel_rfl) (fun _ => by kernel_rfl)
def inf107 : Inf := ⟨.func, 1, 8, .nilFunc⟩
theorem ok107 : InfOk Tryd.prog 107 inf107 := mkOk (by kernel_rfl) (mkFunc (by kernel_rfl)) (by kernel_rfl) (fun _ => by kernel_rfl)
def inf108 : Inf := ⟨.func, 1, 8, .nilFunc⟩
theorem ok108 : InfOk Tryd.prog 108 inf108 := mkOk (by kernel_rfl) (mkFunc (by kernel_rfl)) (by kernel_rfl) (fun _ => by kernel_rfl)
def inf109 : Inf := ⟨(.arr 80 69), 80, 320, (.agg (List.replicate 80 (.int .u32 0)).toArray)⟩
theorem ok109 : InfOk Tryd.prog 109 inf109 := mkOk (by kernel_rfl) (show Tryd.prog.underlying 109 = some (.array 80 69) by kernel_rfl) (by kernel_rfl) (fun h => by cases h)
def inf110 : Inf := ⟨.func, 1, 8, .nilFunc⟩
theorem ok110 : InfOk Tryd.prog 110 inf110 := mkOk (by kernel_rfl) (mkFunc (by kernel_rfl)) (by kernel_rfl) (fun _ => by kernel_rfl)
def inf111 : Inf := ⟨(.arr 64 69), 64, 256, (.agg (List.replicate 64 (.int .u32 0)).toArray)⟩
theorem ok111 : InfOk Tryd.prog 111 inf111 := mkOk (by kernel_rfl) (show Tryd.prog.underlying 111 = some (.array 64 69) by kernel_rfl) (by kernel_rfl) (fun h => by cases h)
def inf112 : Inf := ⟨(.arr 8 69), 8, 32, (.agg (List.replicate 8 (.int .u32 0)).toArray)⟩
theorem ok112 : InfOk Tryd.prog 112 inf112 := mkOk (by kernel_rfl) (show Tryd.prog.underlying 112 = some (.array 8 69) by kernel_rfl) (by kernel_rfl) (fun h => by cases h)
def inf113 : Inf := ⟨(.arr 80 39), 80, 640, (.agg (List.replicate 80 (.int .u64 0)).toArray)⟩
theorem ok113 : InfOk Tryd.prog 113 inf113 := mkOk (by kernel_rfl) (show Tryd.prog.underlying 113 = some (.array 80 39) by kernel_rfl) (by kernel_rfl) (fun h => by cases h)
def inf114 : Inf := ⟨.func, 1, 8, .nilFunc⟩
theorem ok114 : InfOk Tryd.prog 114 inf114 := mkOk (by kernel_rfl) (mkFunc (by kernel_rfl)) (by kernel_rfl) (fun _ => by kernel_rfl)
def inf115 : Inf := ⟨.func, 1, 8, .nilFunc⟩
theorem ok115 : InfOk Tryd.prog 115 inf115 := mkOk (by kernel_rfl) (mkFunc (by kernel_rfl)) (by kernel_rfl) (fun _ => by kernel_rfl)
def inf116 : Inf := ⟨(.ptr 133), 1, 8, (.pointer none)⟩
theorem ok116 : InfOk Tryd.prog 116 inf116 := mkOk (by kernel_rfl) (show Tryd.prog.underlying 116 = some (.pointer 133) by kernel_rfl) (by kernel_rfl) (fun _ => by kernel_rfl)
def inf117 : Inf := ⟨.func, 1, 8, .nilFunc⟩
theorem ok117 : InfOk Tryd.prog 117 inf117 := mkOk (by kernel_rfl) (mkFunc (by kernel_rfl)) (by kernel_rfl) (fun _ => by kernel_rfl)
def inf118 : Inf := ⟨(.struct [(0, 17), (1, 17), (2, 17), (3, 9)]), 4, 40, (.agg #[(.pointer none), (.pointer none), (.pointer none), (.string .empty)])⟩
theorem ok118 : InfOk Tryd.prog 118 inf118 := mkOk (by kernel_rfl) (mkStruct (by kernel_rfl)) (by kernel_rfl) (fun h => by cases h)
def inf119 : Inf := ⟨(.struct [(0, 17), (1, 17), (2, 17), (3, 9)]), 4, 40, (.agg #[(.pointer none), (.pointer none), (.pointer none), (.string .empty)])⟩
theorem ok119 : InfOk Tryd.prog 119 inf119 := mkOk (by kernel_rfl) (mkStruct (by kernel_rfl)) (by kernel_rfl) (fun h => by cases h)
def inf120 : Inf := ⟨(.arr 0 16), 0, 0, (.agg #[])⟩
theorem ok120 : InfOk Tryd.prog 120 inf120 := mkOk (by kernel_rfl) (show Tryd.prog.underlying 120 = some (.array 0 16) by kernel_rfl) (by kernel_rfl) (fun h => by cases h)
def inf121 : Inf := ⟨(.struct [(0, 120)]), 0, 0, (.agg #[])⟩
theorem ok121 : InfOk Tryd.prog 121 inf121 := mkOk (by kernel_rfl) (mkStruct (by kernel_rfl)) (by kernel_rfl) (fun h => by cases h)
def inf122 : Inf := ⟨(.struct [(0, 120)]), 0, 0, (.agg #[])⟩
theorem ok122 : InfOk Tryd.prog 122 inf122 := mkOk (by kernel_rfl) (mkStruct (by kernel_rfl)) (by kernel_rfl) (fun h => by cases h)
def inf123 : Inf := ⟨(.int .u8), 1, 1, (.int .u8 0)⟩
theorem ok123 : InfOk Tryd.prog 123 inf123 := mkOk (by kernel_rfl) (show Tryd.prog.underlying 123 = some (.int .u8) by kernel_rfl) (by kernel_rfl) (fun _ => by kernel_rfl)
def inf124 : Inf := ⟨(.int .u8), 1, 1, (.int .u8 0)⟩
theorem ok124 : InfOk Tryd.prog 124 inf124 := mkOk (by kernel_rfl) (show Tryd.prog.underlying 124 = some (.int .u8) by kernel_rfl) (by kernel_rfl) (fun _ => by kernel_rfl)
def inf125 : Inf := ⟨.func, 1, 8, .nilFunc⟩
theorem ok125 : InfOk Tryd.prog 125 inf125 := mkOk (by kernel_rfl) (mkFunc (by kernel_rfl)) (by kernel_rfl) (fun _ => by kernel_rfl)
def inf126 : Inf := ⟨(.ptr 5), 1, 8, (.pointer none)⟩
theorem ok126 : InfOk Tryd.prog 126 inf126 := mkOk (by kernel_rfl) (show Tryd.prog.underlying 126 = some (.pointer 5) by kernel_rfl) (by kernel_rfl) (fun _ => by kernel_rfl)
def inf127 : Inf := ⟨(.int .i32), 1, 4, (.int .i32 0)⟩
theorem ok127 : InfOk Tryd.prog 127 inf127 := mkOk (by kernel_rfl) (show Tryd.prog.underlying 127 = some (.int .i32) by kernel_rfl) (by kernel_rfl) (fun _ => by kernel_rfl)
def inf128 : Inf := ⟨(.int .i32), 1, 4, (.int .i32 0)⟩
theorem ok128 : InfOk Tryd.prog 128 inf128 := mkOk (by kernel_rfl) (show Tryd.prog.underlying 128 = some (.int .i32) by kernel_rfl) (by kernel_rfl) (fun _ => by kernel_rfl)
def inf129 : Inf := ⟨(.struct [(0, 12), (1, 12), (2, 69), (3, 123), (4, 5), (5, 5), (6, 124), (7, 125), (8, 126), (9, 127), (10, 128)]), 11, 48, (.agg #[(.int .u64 0), (.int .u64 0), (.int .u32 0), (.int .u8 0), (.int .u8 0), (.int .u8 0), (.int .u8 0), .nilFunc, (.pointer none), (.int .i32 0), (.int .i32 0)])⟩
theorem ok129 : InfOk Tryd.prog 129 inf129 := mkOk (by kernel_rfl) (mkStruct (by kernel_rfl)) (by kernel_rfl) (fun h => by cases h)
def inf130 : Inf := ⟨(.struct [(0, 12), (1, 12), (2, 69), (3, 123), (4, 5), (5, 5), (6, 124), (7, 125), (8, 126), (9, 127), (10, 128)]), 11, 48, (.agg #[(.int .u64 0), (.int .u64 0), (.int .u32 0), (.int .u8 0), (.int .u8 0), (.int .u8 0), (.int .u8 0), .nilFunc, (.pointer none), (.int .i32 0), (.int .i32 0)])⟩
theorem ok130 : InfOk Tryd.prog 130 inf130 := mkOk (by kernel_rfl) (mkStruct (by kernel_rfl)) (by kernel_rfl) (fun h => by cases h)
def inf131 : Inf := ⟨.func, 1, 8, .nilFunc⟩
theorem ok131 : InfOk Tryd.prog 131 inf131 := mkOk (by kernel_rfl) (mkFunc (by kernel_rfl)) (by kernel_rfl) (fun _ => by kernel_rfl)
def inf132 : Inf := ⟨(.struct [(0, 9)]), 1, 16, (.agg #[(.string .empty)])⟩
theorem ok132 : InfOk Tryd.prog 132 inf132 := mkOk (by kernel_rfl) (mkStruct (by kernel_rfl)) (by kernel_rfl) (fun h => by cases h)
def inf133 : Inf := ⟨(.struct [(0, 9)]), 1, 16, (.agg #[(.string .empty)])⟩
theorem ok133 : InfOk Tryd.prog 133 inf133 := mkOk (by kernel_rfl) (mkStruct (by kernel_rfl)) (by kernel_rfl) (fun h => by cases h)
def tys : Tab := fun t => (bif Nat.blt t 68 then (bif Nat.blt t 32 then (bif Nat.blt t 16 then (bif Nat.blt t 8 then (bif Nat.blt t 4 then (bif Nat.blt t 2 then (bif Nat.beq t 1 then some inf1 else none) else (bif Nat.blt t 3 then (bif Nat.beq t 2 then some inf2 else none) else (bif Nat.beq t 3 then some inf3 else none))) else (bif Nat.blt t 6 then (bif Nat.blt t 5 then (bif Nat.beq t 4 then some inf4 else none) else (bif Nat.beq t 5 then some inf5 else none)) else (bif Nat.blt t 7 then (bif Nat.beq t 6 then some inf6 else none) else (bif Nat.beq t 7 then some inf7 else none)))) else (bif Nat.blt t 12 then (bif Nat.blt t 10 then (bif Nat.blt t 9 then (bif Nat.beq t 8 then some inf8 else none) else (bif Nat.beq t 9 then some inf9 else none)) else (bif Nat.blt t 11 then (bif Nat.beq t 10 then some inf10 else none) else (bif Nat.beq t 11 then some inf11 else none))) else (bif Nat.blt t 14 then (bif Nat.blt t 13 then (bif Nat.beq t 12 then some inf12 else none) else (bif Nat.beq t 13 then some inf13 else none)) else (bif Nat.blt t 15 then (bif Nat.beq t 14 then some inf14 else none) else (bif Nat.beq t 15 then some inf15 else none))))) else (bif Nat.blt t 24 then (bif Nat.blt t 20 then (bif Nat.blt t 18 then (bif Nat.blt t 17 then (bif Nat.beq t 16 then some inf16 else none) else (bif Nat.beq t 17 then some inf17 else none)) else (bif Nat.blt t 19 then (bif Nat.beq t 18 then some inf18 else none) else (bif Nat.beq t 19 then some inf19 else none))) else (bif Nat.blt t 22 then (bif Nat.blt t 21 then (bif Nat.beq t 20 then some inf20 else none) else (bif Nat.beq t 21 then some inf21 else none)) else (bif Nat.blt t 23 then (bif Nat.beq t 22 then some inf22 else none) else (bif Nat.beq t 23 then some inf23 else none)))) else (bif Nat.blt t 28 then (bif Nat.blt t 26 then (bif Nat.blt t 25 then (bif Nat.beq t 24 then some inf24 else none) else (bif Nat.beq t 25 then some inf25 else none)) else (bif Nat.blt t 27 then (bif Nat.beq t 26 then some inf26 else none) else (bif Nat.beq t 27 then some inf27 else none))) else (bif Nat.blt t 30 then (bif Nat.blt t 29 then (bif Nat.beq t 28 then some inf28 else none) else (bif Nat.beq t 29 then some inf29 else none)) else (bif Nat.blt t 31 then (bif Nat.beq t 30 then some inf30 else none) else (bif Nat.beq t 31 then some inf31 else none)))))) else (bif Nat.blt t 50 then (bif Nat.blt t 41 then (bif Nat.blt t 36 then (bif Nat.blt t 34 then (bif Nat.blt t 33 then (bif Nat.beq t 32 then some inf32 else none) else (bif Nat.beq t 33 then some inf33 else none)) else (bif Nat.blt t 35 then (bif Nat.beq t 34 then some inf34 else none) else (bif Nat.beq t 35 then some inf35 else none))) else (bif Nat.blt t 39 then (bif Nat.blt t 38 then (bif Nat.beq t 36 then some inf36 else none) else (bif Nat.beq t 38 then some inf38 else none)) else (bif Nat.blt t 40 then (bif Nat.beq t 39 then some inf39 else none) else (bif Nat.beq t 40 then some inf40 else none)))) else (bif Nat.blt t 45 then (bif Nat.blt t 43 then (bif Nat.blt t 42 then (bif Nat.beq t 41 then some inf41 else none) else (bif Nat.beq t 42 then some inf42 else none)) else (bif Nat.blt t 44 then (bif Nat.beq t 43 then some inf43 else none) else (bif Nat.beq t 44 then some inf44 else none))) else (bif Nat.blt t 47 then (bif Nat.blt t 46 then (bif Nat.beq t 45 then some inf45 else none) else (bif Nat.beq t 46 then some inf46 else none)) else (bif Nat.blt t 48 then (bif Nat.beq t 47 then some inf47 else none) else (bif Nat.beq t 48 then some inf48 else none))))) else (bif Nat.blt t 59 then (bif Nat.blt t 55 then (bif Nat.blt t 52 then (bif Nat.blt t 51 then (bif Nat.beq t 50 then some inf50 else none) else (bif Nat.beq t 51 then some inf51 else none)) else (bif Nat.blt t 54 then (bif Nat.beq t 52 then some inf52 else none) else (bif Nat.beq t 54 then some inf54 else none))) else (bif Nat.blt t 57 then (bif Nat.blt t 56 then (bif Nat.beq t 55 then some inf55 else none) else (bif Nat.beq t 56 then some inf56 else none)) else (bif Nat.blt t 58 then (bif Nat.beq t 57 then some inf57 else none) else (bif Nat.beq t 58 then some inf58 else none)))) else (bif Nat.blt t 64 then (bif Nat.blt t 61 then (bif Nat.blt t 60 then (bif Nat.beq t 59 then some inf59 else none) else (bif Nat.beq t 60 then some inf60 else none)) else (bif Nat.blt t 63 then (bif Nat.beq t 61 then some inf61 else none) else (bif Nat.beq t 63 then some inf63 else none))) else (bif Nat.blt t 66 then (bif Nat.blt t 65 then (bif Nat.beq t 64 then some inf64 else none) else (bif Nat.beq t 65 then some inf65 else none)) else (bif Nat.blt t 67 then (bif Nat.beq t 66 then some inf66 else none) else (bif Nat.beq t 67 then some inf67 else none))))))) else (bif Nat.blt t 102 then (bif Nat.blt t 86 then (bif Nat.blt t 78 then (bif Nat.blt t 74 then (bif Nat.blt t 71 then (bif Nat.blt t 69 then (bif Nat.beq t 68 then some inf68 else none) else (bif Nat.beq t 69 then some inf69 else none)) else (bif Nat.blt t 73 then (bif Nat.beq t 71 then some inf71 else none) else (bif Nat.beq t 73 then some inf73 else none))) else (bif Nat.blt t 76 then (bif Nat.blt t 75 then (bif Nat.beq t 74 then some inf74 else none) else (bif Nat.beq t 75 then some inf75 else none)) else (bif Nat.blt t 77 then (bif Nat.beq t 76 then some inf76 else none) else (bif Nat.beq t 77 then some inf77 else none)))) else (bif Nat.blt t 82 then (bif Nat.blt t 80 then (bif Nat.blt t 79 then (bif Nat.beq t 78 then some inf78 else none) else (bif Nat.beq t 79 then some inf79 else none)) else (bif Nat.blt t 81 then (bif Nat.beq t 80 then some inf80 else none) else (bif Nat.beq t 81 then some inf81 else none))) else (bif Nat.blt t 84 then (bif Nat.blt t 83 then (bif Nat.beq t 82 then some inf82 else none) else (bif Nat.beq t 83 then some inf83 else none)) else (bif Nat.blt t 85 then (bif Nat.beq t 84 then some inf84 else none) else (bif Nat.beq t 85 then some inf85 else none))))) else (bif Nat.blt t 94 then (bif Nat.blt t 90 then (bif Nat.blt t 88 then (bif Nat.blt t 87 then (bif Nat.beq t 86 then some inf86 else none) else (bif Nat.beq t 87 then some inf87 else none)) else (bif Nat.blt t 89 then (bif Nat.beq t 88 then some inf88 else none) else (bif Nat.beq t 89 then some inf89 else none))) else (bif Nat.blt t 92 then (bif Nat.blt t 91 then (bif Nat.beq t 90 then some inf90 else none) else (bif Nat.beq t 91 then some inf91 else none)) else (bif Nat.blt t 93 then (bif Nat.beq t 92 then some inf92 else none) else (bif Nat.beq t 93 then some inf93 else none)))) else (bif Nat.blt t 98 then (bif Nat.blt t 96 then (bif Nat.blt t 95 then (bif Nat.beq t 94 then some inf94 else none) else (bif Nat.beq t 95 then some inf95 else none)) else (bif Nat.blt t 97 then (bif Nat.beq t 96 then some inf96 else none) else (bif Nat.beq t 97 then some inf97 else none))) else (bif Nat.blt t 100 then (bif Nat.blt t 99 then (bif Nat.beq t 98 then some inf98 else none) else (bif Nat.beq t 99 then some inf99 else none)) else (bif Nat.blt t 101 then (bif Nat.beq t 100 then some inf100 else none) else (bif Nat.beq t 101 then some inf101 else none)))))) else (bif Nat.blt t 118 then (bif Nat.blt t 110 then (bif Nat.blt t 106 then (bif Nat.blt t 104 then (bif Nat.blt t 103 then (bif Nat.beq t 102 then some inf102 else none) else (bif Nat.beq t 103 then some inf103 else none)) else (bif Nat.blt t 105 then (bif Nat.beq t 104 then some inf104 else none) else (bif Nat.beq t 105 then some inf105 else none))) else (bif Nat.blt t 108 then (bif Nat.blt t 107 then (bif Nat.beq t 106 then some inf106 else none) else (bif Nat.beq t 107 then some inf107 else none)) else (bif Nat.blt t 109 then (bif Nat.beq t 108 then some inf108 else none) else (bif Nat.beq t 109 then some inf109 else none)))) else (bif Nat.blt t 114 then (bif Nat.blt t 112 then (bif Nat.blt t 111 then (bif Nat.beq t 110 then some inf110 else none) else (bif Nat.beq t 111 then some inf111 else none)) else (bif Nat.blt t 113 then (bif Nat.beq t 112 then some inf112 else none) else (bif Nat.beq t 113 then some inf113 else none))) else (bif Nat.blt t 116 then (bif Nat.blt t 115 then (bif Nat.beq t 114 then some inf114 else none) else (bif Nat.beq t 115 then some inf115 else none)) else (bif Nat.blt t 117 then (bif Nat.beq t 116 then some inf116 else none) else (bif Nat.beq t 117 then some inf117 else none))))) else (bif Nat.blt t 126 then (bif Nat.blt t 122 then (bif Nat.blt t 120 then (bif Nat.blt t 119 then (bif Nat.beq t 118 then some inf118 else none) else (bif Nat.beq t 119 then some inf119 else none)) else (bif Nat.blt t 121 then (bif Nat.beq t 120 then some inf120 else none) else (bif Nat.beq t 121 then some inf121 else none))) else (bif Nat.blt t 124 then (bif Nat.blt t 123 then (bif Nat.beq t 122 then some inf122 else none) else (bif Nat.beq t 123 then some inf123 else none)) else (bif Nat.blt t 125 then (bif Nat.beq t 124 then some inf124 else none) else (bif Nat.beq t 125 then some inf125 else none)))) else (bif Nat.blt t 130 then (bif Nat.blt t 128 then (bif Nat.blt t 127 then (bif Nat.beq t 126 then some inf126 else none) else (bif Nat.beq t 127 then some inf127 else none)) else (bif Nat.blt t 129 then (bif Nat.beq t 128 then some inf128 else none) else (bif Nat.beq t 129 then some inf129 else none))) else (bif Nat.blt t 132 then (bif Nat.blt t 131 then (bif Nat.beq t 130 then some inf130 else none) else (bif Nat.beq t 131 then some inf131 else none)) else (bif Nat.blt t 133 then (bif Nat.beq t 132 then some inf132 else none) else (bif Nat.beq t 133 then some inf133 else none))))))))
theorem tysOk : TabOk tys Tryd.prog := fun t i h => (node h (fun h => (node h (fun h => (node h (fun h => (node h (fun h => (node h (fun h => (node h (fun h => (leaf h ok1)) (fun h => (node h (fun h => (leaf h ok2)) (fun h => (leaf h ok3)))))) (fun h => (node h (fun h => (node h (fun h => (leaf h ok4)) (fun h => (leaf h ok5)))) (fun h => (node h (fun h => (leaf h ok6)) (fun h => (leaf h ok7)))))))) (fun h => (node h (fun h => (node h (fun h => (node h (fun h => (leaf h ok8)) (fun h => (leaf h ok9)))) (fun h => (node h (fun h => (leaf h ok10)) (fun h => (leaf h ok11)))))) (fun h => (node h (fun h => (node h (fun h => (leaf h ok12)) (fun h => (leaf h ok13)))) (fun h => (node h (fun h => (leaf h ok14)) (fun h => (leaf h ok15)))))))))) (fun h => (node h (fun h => (node h (fun h => (node h (fun h => (node h (fun h => (leaf h ok16)) (fun h => (leaf h ok17)))) (fun h => (node h (fun h => (leaf h ok18)) (fun h => (leaf h ok19)))))) (fun h => (node h (fun h => (node h (fun h => (leaf h ok20)) (fun h => (leaf h ok21)))) (fun h => (node h (fun h => (leaf h ok22)) (fun h => (leaf h ok23)))))))) (fun h => (node h (fun h => (node h (fun h => (node h (fun h => (leaf h ok24)) (fun h => (leaf h ok25)))) (fun h => (node h (fun h => (leaf h ok26)) (fun h => (leaf h ok27)))))) (fun h => (node h (fun h => (node h (fun h => (leaf h ok28)) (fun h => (leaf h ok29)))) (fun h => (node h (fun h => (leaf h ok30)) (fun h => (leaf h ok31)))))))))))) (fun h => (node h (fun h => (node h (fun h => (node h (fun h => (node h (fun h => (node h (fun h => (leaf h ok32)) (fun h => (leaf h ok33)))) (fun h => (node h (fun h => (leaf h ok34)) (fun h => (leaf h ok35)))))) (fun h => (node h (fun h => (node h (fun h => (leaf h ok36)) (fun h => (leaf h ok38)))) (fun h => (node h (fun h => (leaf h ok39)) (fun h => (leaf h ok40)))))))) (fun h => (node h (fun h => (node h (fun h => (node h (fun h => (leaf h ok41)) (fun h => (leaf h ok42)))) (fun h => (node h (fun h => (leaf h ok43)) (fun h => (leaf h ok44)))))) (fun h => (node h (fun h => (node h (fun h => (leaf h ok45)) (fun h => (leaf h ok46)))) (fun h => (node h (fun h => (leaf h ok47)) (fun h => (leaf h ok48)))))))))) (fun h => (node h (fun h => (node h (fun h => (node h (fun h => (node h (fun h => (leaf h ok50)) (fun h => (leaf h ok51)))) (fun h => (node h (fun h => (leaf h ok52)) (fun h => (leaf h ok54)))))) (fun h => (node h (fun h => (node h (fun h => (leaf h ok55)) (fun h => (leaf h ok56)))) (fun h => (node h (fun h => (leaf h ok57)) (fun h => (leaf h ok58)))))))) (fun h => (node h (fun h => (node h (fun h => (node h (fun h => (leaf h ok59)) (fun h => (leaf h ok60)))) (fun h => (node h (fun h => (leaf h ok61)) (fun h => (leaf h ok63)))))) (fun h => (node h (fun h => (node h (fun h => (leaf h ok64)) (fun h => (leaf h ok65)))) (fun h => (node h (fun h => (leaf h ok66)) (fun h => (leaf h ok67)))))))))))))) (fun h => (node h (fun h => (node h (fun h => (node h (fun h => (node h (fun h => (node h (fun h => (node h (fun h => (leaf h ok68)) (fun h => (leaf h ok69)))) (fun h => (node h (fun h => (leaf h ok71)) (fun h => (leaf h ok73)))))) (fun h => (node h (fun h => (node h (fun h => (leaf h ok74)) (fun h => (leaf h ok75)))) (fun h => (node h (fun h => (leaf h ok76)) (fun h => (leaf h ok77)))))))) (fun h => (node h (fun h => (node h (fun h => (node h (fun h => (leaf h ok78)) (fun h => (leaf h ok79)))) (fun h => (node h (fun h => (leaf h ok80)) (fun h => (leaf h ok81)))))) (fun h => (node h (fun h => (node h (fun h => (leaf h ok82)) (fun h => (leaf h ok83)))) (fun h => (node h (fun h => (leaf h ok84)) (fun h => (leaf h ok85)))))))))) (fun h => (node h (fun h => (node h (fun h => (node h (fun h => (node h (fun h => (leaf h ok86)) (fun h => (leaf h ok87)))) (fun h => (node h (fun h => (leaf h ok88)) (fun h => (leaf h ok89)))))) (fun h => (node h (fun h => (node h (fun h => (leaf h ok90)) (fun h => (leaf h ok91)))) (fun h => (node h (fun h => (leaf h ok92)) (fun h => (leaf h ok93)))))))) (fun h => (node h (fun h => (node h (fun h => (node h (fun h => (leaf h ok94)) (fun h => (leaf h ok95)))) (fun h => (node h (fun h => (leaf h ok96)) (fun h => (leaf h ok97)))))) (fun h => (node h (fun h => (node h (fun h => (leaf h ok98)) (fun h => (leaf h ok99)))) (fun h => (node h (fun h => (leaf h ok100)) (fun h => (leaf h ok101)))))))))))) (fun h => (node h (fun h => (node h (fun h => (node h (fun h => (node h (fun h => (node h (fun h => (leaf h ok102)) (fun h => (leaf h ok103)))) (fun h => (node h (fun h => (leaf h ok104)) (fun h => (leaf h ok105)))))) (fun h => (node h (fun h => (node h (fun h => (leaf h ok106)) (fun h => (leaf h ok107)))) (fun h => (node h (fun h => (leaf h ok108)) (fun h => (leaf h ok109)))))))) (fun h => (node h (fun h => (node h (fun h => (node h (fun h => (leaf h ok110)) (fun h => (leaf h ok111)))) (fun h => (node h (fun h => (leaf h ok112)) (fun h => (leaf h ok113)))))) (fun h => (node h (fun h => (node h (fun h => (leaf h ok114)) (fun h => (leaf h ok115)))) (fun h => (node h (fun h => (leaf h ok116)) (fun h => (leaf h ok117)))))))))) (fun h => (node h (fun h => (node h (fun h => (node h (fun h => (node h (fun h => (leaf h ok118)) (fun h => (leaf h ok119)))) (fun h => (node h (fun h => (leaf h ok120)) (fun h => (leaf h ok121)))))) (fun h => (node h (fun h => (node h (fun h => (leaf h ok122)) (fun h => (leaf h ok123)))) (fun h => (node h (fun h => (leaf h ok124)) (fun h => (leaf h ok125)))))))) (fun h => (node h (fun h => (node h (fun h => (node h (fun h => (leaf h ok126)) (fun h => (leaf h ok127)))) (fun h => (node h (fun h => (leaf h ok128)) (fun h => (leaf h ok129)))))) (fun h => (node h (fun h => (node h (fun h => (leaf h ok130)) (fun h => (leaf h ok131)))) (fun h => (node h (fun h => (leaf h ok132)) (fun h => (leaf h ok133)))))))))))))))
def exts : Nat → Bool := fun g => Nat.beq g 0 || Nat.beq g 1 || Nat.beq g 26 || Nat.beq g 50 || Nat.beq g 51 || Nat.beq g 84 || Nat.beq g 85 || Nat.beq g 86 || Nat.beq g 87 || Nat.beq g 88 || Nat.beq g 89 || Nat.beq g 90 || Nat.beq g 91 || Nat.beq g 92 || Nat.beq g 93 || Nat.beq g 94 || Nat.beq g 95 || Nat.beq g 96 || Nat.beq g 97 || Nat.beq g 98 || Nat.beq g 99 || Nat.beq g 100 || Nat.beq g 101 || Nat.beq g 102 || Nat.beq g 103 || Nat.beq g 104 ||  (Nat.ble 106 g)
theorem extsOk : ExtOk Tryd.prog exts := by
  refine extAll (n := 106) (by kernel_rfl) ?_
  intro g h
  have h1 : Nat.ble 106 g = true := by rw [Nat.ble_eq]; exact h
  simp [exts, h1]
end Go.Proofs.YthghiokcinpnlaaDoor
