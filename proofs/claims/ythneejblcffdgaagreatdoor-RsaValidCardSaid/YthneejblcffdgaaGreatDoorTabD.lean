/- The types and functions of this seat's program as the walk by evaluation needs them: a table by program (table.py), each row held against the program by the kernel. -/
import Derived.Test.YthneejblcffdgaaGreatDoorProg
import Derived.Test.YthneejblcffdgaaGreatDoorEvSoundC
import Derived.KernelRfl
namespace Go.Proofs.YthneejblcffdgaaGreatDoor
open Go Go.Ev
set_option maxRecDepth 100000
set_option linter.unusedVariables false
theorem mkOk {P : Program} {t : TypeId} {ty : Ty} {n b : Nat} {z : Value} (h : (P.info? t).map (fun i => (i.zero, i.size, i.bytes)) = some (some z, n, b)) (hty : TyOk P t ty) (hz : z.cells.size = n) (h1 : ty.isAgg = false → z.cells.size = 1) : InfOk P t ⟨ty, n, b, z⟩ := by
  cases hi : P.info? t with
  | none => rw [hi] at h; cases h
  | some pi =>
    rw [hi] at h
    simp only [Option.map_some, Option.some.injEq, Prod.mk.injEq] at h
    exact ⟨⟨pi, hi, h.2.1, h.2.2, h.1⟩, hty, hz, fun h' _ => h1 h'⟩
theorem mkStruct {P : Program} {t : TypeId} {fs : List (Nat × Nat)} (h : (P.underlying t).bind (fun d => match d with | .struct F => some (F.toList.map fun f => (f.offset, f.type)) | _ => none) = some fs) : TyOk P t (.struct fs) := by
  cases hu : P.underlying t with
  | none => rw [hu] at h; cases h
  | some d => rw [hu] at h; cases d <;> first | exact ⟨_, hu, Option.some.inj h⟩ | cases h
theorem mkFunc {P : Program} {t : TypeId} (h : (match P.underlying t with | some (.func ..) => true | _ => false) = true) : TyOk P t .func := by
  cases hu : P.underlying t with
  | none => rw [hu] at h; cases h
  | some d => rw [hu] at h; cases d <;> first | exact ⟨_, _, _, hu⟩ | cases h
theorem mkIface {P : Program} {t : TypeId} (h : (match P.underlying t with | some (.interface ..) => true | _ => false) = true) : TyOk P t .iface := by
  cases hu : P.underlying t with
  | none => rw [hu] at h; cases h
  | some d => rw [hu] at h; cases d <;> first | exact ⟨_, hu⟩ | cases h
theorem node {C : Prop} {c : Bool} {A B : Option Inf} {i : Inf} (h : (bif c then A else B) = some i) (ha : A = some i → C) (hb : B = some i → C) : C := by
  cases c
  · exact hb h
  · exact ha h
theorem leaf {P : Program} {t u : Nat} {x i : Inf} (h : (bif Nat.beq t u then some x else none) = some i) (hx : InfOk P u x) : InfOk P t i := by
  cases hb : Nat.beq t u with
  | false => rw [hb] at h; cases h
  | true => rw [hb] at h; cases h; rw [Nat.beq_eq.mp hb]; exact hx
theorem extAll {P : Program} {ext : Nat → Bool} {n : Nat} (h : (List.range n).all (fun g => ext g || entersB P g) = true) (hn : ∀ g, n ≤ g → ext g = true) : ExtOk P ext := by
  intro g hg
  by_cases hlt : g < n
  · rw [List.all_eq_true] at h
    have := h g (by simpa using hlt)
    simpa [hg] using this
  · rw [hn g (by omega)] at hg; cases hg
def inf1 : Inf := ⟨.func, 1, 8, .nilFunc⟩
theorem ok1 : InfOk Tryz.prog 1 inf1 := mkOk (by kernel_rfl) (mkFunc (by kernel_rfl)) (by kernel_rfl) (fun _ => by kernel_rfl)
def inf2 : Inf := ⟨(.int .i64), 1, 8, (.int .i64 0)⟩
theorem ok2 : InfOk Tryz.prog 2 inf2 := mkOk (by kernel_rfl) (show Tryz.prog.underlying 2 = some (.int .i64) by kernel_rfl) (by kernel_rfl) (fun _ => by kernel_rfl)
def inf3 : Inf := ⟨(.int .i64), 1, 8, (.int .i64 0)⟩
theorem ok3 : InfOk Tryz.prog 3 inf3 := mkOk (by kernel_rfl) (show Tryz.prog.underlying 3 = some (.int .i64) by kernel_rfl) (by kernel_rfl) (fun _ => by kernel_rfl)
def inf4 : Inf := ⟨.bool, 1, 1, (.bool false)⟩
theorem ok4 : InfOk Tryz.prog 4 inf4 := mkOk (by kernel_rfl) (show Tryz.prog.underlying 4 = some .bool by kernel_rfl) (by kernel_rfl) (fun _ => by kernel_rfl)
def inf5 : Inf := ⟨(.int .u8), 1, 1, (.int .u8 0)⟩
theorem ok5 : InfOk Tryz.prog 5 inf5 := mkOk (by kernel_rfl) (show Tryz.prog.underlying 5 = some (.int .u8) by kernel_rfl) (by kernel_rfl) (fun _ => by kernel_rfl)
def inf6 : Inf := ⟨(.int .u8), 1, 1, (.int .u8 0)⟩
theorem ok6 : InfOk Tryz.prog 6 inf6 := mkOk (by kernel_rfl) (show Tryz.prog.underlying 6 = some (.int .u8) by kernel_rfl) (by kernel_rfl) (fun _ => by kernel_rfl)
def inf7 : Inf := ⟨(.struct [(0, 2), (1, 3), (2, 4), (3, 6)]), 4, 24, (.agg #[(.int .i64 0), (.int .i64 0), (.bool false), (.int .u8 0)])⟩
theorem ok7 : InfOk Tryz.prog 7 inf7 := mkOk (by kernel_rfl) (mkStruct (by kernel_rfl)) (by kernel_rfl) (fun h => by cases h)
def inf8 : Inf := ⟨(.struct [(0, 2), (1, 3), (2, 4), (3, 6)]), 4, 24, (.agg #[(.int .i64 0), (.int .i64 0), (.bool false), (.int .u8 0)])⟩
theorem ok8 : InfOk Tryz.prog 8 inf8 := mkOk (by kernel_rfl) (mkStruct (by kernel_rfl)) (by kernel_rfl) (fun h => by cases h)
def inf9 : Inf := ⟨.string, 1, 16, (.string .empty)⟩
theorem ok9 : InfOk Tryz.prog 9 inf9 := mkOk (by kernel_rfl) (show Tryz.prog.underlying 9 = some .string by kernel_rfl) (by kernel_rfl) (fun _ => by kernel_rfl)
def inf10 : Inf := ⟨.string, 1, 16, (.string .empty)⟩
theorem ok10 : InfOk Tryz.prog 10 inf10 := mkOk (by kernel_rfl) (show Tryz.prog.underlying 10 = some .string by kernel_rfl) (by kernel_rfl) (fun _ => by kernel_rfl)
def inf11 : Inf := ⟨.string, 1, 16, (.string .empty)⟩
theorem ok11 : InfOk Tryz.prog 11 inf11 := mkOk (by kernel_rfl) (show Tryz.prog.underlying 11 = some .string by kernel_rfl) (by kernel_rfl) (fun _ => by kernel_rfl)
def inf12 : Inf := ⟨(.int .u64), 1, 8, (.int .u64 0)⟩
theorem ok12 : InfOk Tryz.prog 12 inf12 := mkOk (by kernel_rfl) (show Tryz.prog.underlying 12 = some (.int .u64) by kernel_rfl) (by kernel_rfl) (fun _ => by kernel_rfl)
def inf13 : Inf := ⟨(.struct [(0, 9), (1, 12)]), 2, 24, (.agg #[(.string .empty), (.int .u64 0)])⟩
theorem ok13 : InfOk Tryz.prog 13 inf13 := mkOk (by kernel_rfl) (mkStruct (by kernel_rfl)) (by kernel_rfl) (fun h => by cases h)
def inf14 : Inf := ⟨(.struct [(0, 9), (1, 12)]), 2, 24, (.agg #[(.string .empty), (.int .u64 0)])⟩
theorem ok14 : InfOk Tryz.prog 14 inf14 := mkOk (by kernel_rfl) (mkStruct (by kernel_rfl)) (by kernel_rfl) (fun h => by cases h)
def inf15 : Inf := ⟨(.ptr 156), 1, 8, (.pointer none)⟩
theorem ok15 : InfOk Tryz.prog 15 inf15 := mkOk (by kernel_rfl) (show Tryz.prog.underlying 15 = some (.pointer 156) by kernel_rfl) (by kernel_rfl) (fun _ => by kernel_rfl)
def inf16 : Inf := ⟨(.ptr 159), 1, 8, (.pointer none)⟩
theorem ok16 : InfOk Tryz.prog 16 inf16 := mkOk (by kernel_rfl) (show Tryz.prog.underlying 16 = some (.pointer 159) by kernel_rfl) (by kernel_rfl) (fun _ => by kernel_rfl)
def inf17 : Inf := ⟨(.ptr 168), 1, 8, (.pointer none)⟩
theorem ok17 : InfOk Tryz.prog 17 inf17 := mkOk (by kernel_rfl) (show Tryz.prog.underlying 17 = some (.pointer 168) by kernel_rfl) (by kernel_rfl) (fun _ => by kernel_rfl)
def inf18 : Inf := ⟨(.struct [(0, 17)]), 1, 8, (.agg #[(.pointer none)])⟩
theorem ok18 : InfOk Tryz.prog 18 inf18 := mkOk (by kernel_rfl) (mkStruct (by kernel_rfl)) (by kernel_rfl) (fun h => by cases h)
def inf19 : Inf := ⟨(.struct [(0, 17)]), 1, 8, (.agg #[(.pointer none)])⟩
theorem ok19 : InfOk Tryz.prog 19 inf19 := mkOk (by kernel_rfl) (mkStruct (by kernel_rfl)) (by kernel_rfl) (fun h => by cases h)
def inf20 : Inf := ⟨.iface, 1, 16, .nilIface⟩
theorem ok20 : InfOk Tryz.prog 20 inf20 := mkOk (by kernel_rfl) (mkIface (by kernel_rfl)) (by kernel_rfl) (fun _ => by kernel_rfl)
def inf21 : Inf := ⟨(.int .i32), 1, 4, (.int .i32 0)⟩
theorem ok21 : InfOk Tryz.prog 21 inf21 := mkOk (by kernel_rfl) (show Tryz.prog.underlying 21 = some (.int .i32) by kernel_rfl) (by kernel_rfl) (fun _ => by kernel_rfl)
def inf22 : Inf := ⟨(.slice 34), 1, 24, (.slice none 0 0)⟩
theorem ok22 : InfOk Tryz.prog 22 inf22 := mkOk (by kernel_rfl) (show Tryz.prog.underlying 22 = some (.slice 34) by kernel_rfl) (by kernel_rfl) (fun _ => by kernel_rfl)
def inf23 : Inf := ⟨(.slice 34), 1, 24, (.slice none 0 0)⟩
theorem ok23 : InfOk Tryz.prog 23 inf23 := mkOk (by kernel_rfl) (show Tryz.prog.underlying 23 = some (.slice 34) by kernel_rfl) (by kernel_rfl) (fun _ => by kernel_rfl)
def inf24 : Inf := ⟨(.struct [(0, 23), (1, 23), (2, 23), (3, 23), (4, 23)]), 5, 120, (.agg (List.replicate 5 (.slice none 0 0)).toArray)⟩
theorem ok24 : InfOk Tryz.prog 24 inf24 := mkOk (by kernel_rfl) (mkStruct (by kernel_rfl)) (by kernel_rfl) (fun h => by cases h)
def inf25 : Inf := ⟨(.struct [(0, 23), (1, 23), (2, 23), (3, 23), (4, 23)]), 5, 120, (.agg (List.replicate 5 (.slice none 0 0)).toArray)⟩
theorem ok25 : InfOk Tryz.prog 25 inf25 := mkOk (by kernel_rfl) (mkStruct (by kernel_rfl)) (by kernel_rfl) (fun h => by cases h)
def inf26 : Inf := ⟨.func, 1, 8, .nilFunc⟩
theorem ok26 : InfOk Tryz.prog 26 inf26 := mkOk (by kernel_rfl) (mkFunc (by kernel_rfl)) (by kernel_rfl) (fun _ => by kernel_rfl)
def inf27 : Inf := ⟨.func, 1, 8, .nilFunc⟩
theorem ok27 : InfOk Tryz.prog 27 inf27 := mkOk (by kernel_rfl) (mkFunc (by kernel_rfl)) (by kernel_rfl) (fun _ => by kernel_rfl)
def inf28 : Inf := ⟨.func, 1, 8, .nilFunc⟩
theorem ok28 : InfOk Tryz.prog 28 inf28 := mkOk (by kernel_rfl) (mkFunc (by kernel_rfl)) (by kernel_rfl) (fun _ => by kernel_rfl)
def inf29 : Inf := ⟨.func, 1, 8, .nilFunc⟩
theorem ok29 : InfOk Tryz.prog 29 inf29 := mkOk (by kernel_rfl) (mkFunc (by kernel_rfl)) (by kernel_rfl) (fun _ => by kernel_rfl)
def inf30 : Inf := ⟨(.slice 34), 1, 24, (.slice none 0 0)⟩
theorem ok30 : InfOk Tryz.prog 30 inf30 := mkOk (by kernel_rfl) (show Tryz.prog.underlying 30 = some (.slice 34) by kernel_rfl) (by kernel_rfl) (fun _ => by kernel_rfl)
def inf31 : Inf := ⟨(.struct [(0, 30), (1, 30), (2, 30), (3, 30), (4, 30)]), 5, 120, (.agg (List.replicate 5 (.slice none 0 0)).toArray)⟩
theorem ok31 : InfOk Tryz.prog 31 inf31 := mkOk (by kernel_rfl) (mkStruct (by kernel_rfl)) (by kernel_rfl) (fun h => by cases h)
def inf32 : Inf := ⟨(.struct [(0, 30), (1, 30), (2, 30), (3, 30), (4, 30)]), 5, 120, (.agg (List.replicate 5 (.slice none 0 0)).toArray)⟩
theorem ok32 : InfOk Tryz.prog 32 inf32 := mkOk (by kernel_rfl) (mkStruct (by kernel_rfl)) (by kernel_rfl) (fun h => by cases h)
def inf33 : Inf := ⟨.func, 1, 8, .nilFunc⟩
theorem ok33 : InfOk Tryz.prog 33 inf33 := mkOk (by kernel_rfl) (mkFunc (by kernel_rfl)) (by kernel_rfl) (fun _ => by kernel_rfl)
def inf34 : Inf := ⟨(.int .u64), 1, 8, (.int .u64 0)⟩
theorem ok34 : InfOk Tryz.prog 34 inf34 := mkOk (by kernel_rfl) (show Tryz.prog.underlying 34 = some (.int .u64) by kernel_rfl) (by kernel_rfl) (fun _ => by kernel_rfl)
def inf36 : Inf := ⟨.func, 1, 8, .nilFunc⟩
theorem ok36 : InfOk Tryz.prog 36 inf36 := mkOk (by kernel_rfl) (mkFunc (by kernel_rfl)) (by kernel_rfl) (fun _ => by kernel_rfl)
def inf37 : Inf := ⟨.func, 1, 8, .nilFunc⟩
theorem ok37 : InfOk Tryz.prog 37 inf37 := mkOk (by kernel_rfl) (mkFunc (by kernel_rfl)) (by kernel_rfl) (fun _ => by kernel_rfl)
def inf38 : Inf := ⟨.func, 1, 8, .nilFunc⟩
theorem ok38 : InfOk Tryz.prog 38 inf38 := mkOk (by kernel_rfl) (mkFunc (by kernel_rfl)) (by kernel_rfl) (fun _ => by kernel_rfl)
def inf39 : Inf := ⟨.func, 1, 8, .nilFunc⟩
theorem ok39 : InfOk Tryz.prog 39 inf39 := mkOk (by kernel_rfl) (mkFunc (by kernel_rfl)) (by kernel_rfl) (fun _ => by kernel_rfl)
def inf40 : Inf := ⟨(.ptr 68), 1, 8, (.pointer none)⟩
theorem ok40 : InfOk Tryz.prog 40 inf40 := mkOk (by kernel_rfl) (show Tryz.prog.underlying 40 = some (.pointer 68) by kernel_rfl) (by kernel_rfl) (fun _ => by kernel_rfl)
def inf41 : Inf := ⟨.func, 1, 8, .nilFunc⟩
theorem ok41 : InfOk Tryz.prog 41 inf41 := mkOk (by kernel_rfl) (mkFunc (by kernel_rfl)) (by kernel_rfl) (fun _ => by kernel_rfl)
def inf42 : Inf := ⟨.func, 1, 8, .nilFunc⟩
theorem ok42 : InfOk Tryz.prog 42 inf42 := mkOk (by kernel_rfl) (mkFunc (by kernel_rfl)) (by kernel_rfl) (fun _ => by kernel_rfl)
def inf43 : Inf := ⟨.func, 1, 8, .nilFunc⟩
theorem ok43 : InfOk Tryz.prog 43 inf43 := mkOk (by kernel_rfl) (mkFunc (by kernel_rfl)) (by kernel_rfl) (fun _ => by kernel_rfl)
def inf44 : Inf := ⟨.func, 1, 8, .nilFunc⟩
theorem ok44 : InfOk Tryz.prog 44 inf44 := mkOk (by kernel_rfl) (mkFunc (by kernel_rfl)) (by kernel_rfl) (fun _ => by kernel_rfl)
def inf45 : Inf := ⟨.func, 1, 8, .nilFunc⟩
theorem ok45 : InfOk Tryz.prog 45 inf45 := mkOk (by kernel_rfl) (mkFunc (by kernel_rfl)) (by kernel_rfl) (fun _ => by kernel_rfl)
def inf46 : Inf := ⟨(.int .u64), 1, 8, (.int .u64 0)⟩
theorem ok46 : InfOk Tryz.prog 46 inf46 := mkOk (by kernel_rfl) (show Tryz.prog.underlying 46 = some (.int .u64) by kernel_rfl) (by kernel_rfl) (fun _ => by kernel_rfl)
def inf47 : Inf := ⟨.func, 1, 8, .nilFunc⟩
theorem ok47 : InfOk Tryz.prog 47 inf47 := mkOk (by kernel_rfl) (mkFunc (by kernel_rfl)) (by kernel_rfl) (fun _ => by kernel_rfl)
def inf48 : Inf := ⟨.func, 1, 8, .nilFunc⟩
theorem ok48 : InfOk Tryz.prog 48 inf48 := mkOk (by kernel_rfl) (mkFunc (by kernel_rfl)) (by kernel_rfl) (fun _ => by kernel_rfl)
def inf49 : Inf := ⟨.func, 1, 8, .nilFunc⟩
theorem ok49 : InfOk Tryz.prog 49 inf49 := mkOk (by kernel_rfl) (mkFunc (by kernel_rfl)) (by kernel_rfl) (fun _ => by kernel_rfl)
def inf50 : Inf := ⟨.func, 1, 8, .nilFunc⟩
theorem ok50 : InfOk Tryz.prog 50 inf50 := mkOk (by kernel_rfl) (mkFunc (by kernel_rfl)) (by kernel_rfl) (fun _ => by kernel_rfl)
def inf51 : Inf := ⟨.func, 1, 8, .nilFunc⟩
theorem ok51 : InfOk Tryz.prog 51 inf51 := mkOk (by kernel_rfl) (mkFunc (by kernel_rfl)) (by kernel_rfl) (fun _ => by kernel_rfl)
def inf52 : Inf := ⟨.func, 1, 8, .nilFunc⟩
theorem ok52 : InfOk Tryz.prog 52 inf52 := mkOk (by kernel_rfl) (mkFunc (by kernel_rfl)) (by kernel_rfl) (fun _ => by kernel_rfl)
def inf53 : Inf := ⟨.func, 1, 8, .nilFunc⟩
theorem ok53 : InfOk Tryz.prog 53 inf53 := mkOk (by kernel_rfl) (mkFunc (by kernel_rfl)) (by kernel_rfl) (fun _ => by kernel_rfl)
def inf54 : Inf := ⟨.func, 1, 8, .nilFunc⟩
theorem ok54 : InfOk Tryz.prog 54 inf54 := mkOk (by kernel_rfl) (mkFunc (by kernel_rfl)) (by kernel_rfl) (fun _ => by kernel_rfl)
def inf55 : Inf := ⟨.func, 1, 8, .nilFunc⟩
theorem ok55 : InfOk Tryz.prog 55 inf55 := mkOk (by kernel_rfl) (mkFunc (by kernel_rfl)) (by kernel_rfl) (fun _ => by kernel_rfl)
def inf56 : Inf := ⟨.func, 1, 8, .nilFunc⟩
theorem ok56 : InfOk Tryz.prog 56 inf56 := mkOk (by kernel_rfl) (mkFunc (by kernel_rfl)) (by kernel_rfl) (fun _ => by kernel_rfl)
def inf57 : Inf := ⟨.func, 1, 8, .nilFunc⟩
theorem ok57 : InfOk Tryz.prog 57 inf57 := mkOk (by kernel_rfl) (mkFunc (by kernel_rfl)) (by kernel_rfl) (fun _ => by kernel_rfl)
def inf58 : Inf := ⟨.func, 1, 8, .nilFunc⟩
theorem ok58 : InfOk Tryz.prog 58 inf58 := mkOk (by kernel_rfl) (mkFunc (by kernel_rfl)) (by kernel_rfl) (fun _ => by kernel_rfl)
def inf59 : Inf := ⟨.func, 1, 8, .nilFunc⟩
theorem ok59 : InfOk Tryz.prog 59 inf59 := mkOk (by kernel_rfl) (mkFunc (by kernel_rfl)) (by kernel_rfl) (fun _ => by kernel_rfl)
def inf60 : Inf := ⟨.func, 1, 8, .nilFunc⟩
theorem ok60 : InfOk Tryz.prog 60 inf60 := mkOk (by kernel_rfl) (mkFunc (by kernel_rfl)) (by kernel_rfl) (fun _ => by kernel_rfl)
def inf61 : Inf := ⟨.func, 1, 8, .nilFunc⟩
theorem ok61 : InfOk Tryz.prog 61 inf61 := mkOk (by kernel_rfl) (mkFunc (by kernel_rfl)) (by kernel_rfl) (fun _ => by kernel_rfl)
def inf62 : Inf := ⟨(.slice 5), 1, 24, (.slice none 0 0)⟩
theorem ok62 : InfOk Tryz.prog 62 inf62 := mkOk (by kernel_rfl) (show Tryz.prog.underlying 62 = some (.slice 5) by kernel_rfl) (by kernel_rfl) (fun _ => by kernel_rfl)
def inf63 : Inf := ⟨.func, 1, 8, .nilFunc⟩
theorem ok63 : InfOk Tryz.prog 63 inf63 := mkOk (by kernel_rfl) (mkFunc (by kernel_rfl)) (by kernel_rfl) (fun _ => by kernel_rfl)
def inf64 : Inf := ⟨.func, 1, 8, .nilFunc⟩
theorem ok64 : InfOk Tryz.prog 64 inf64 := mkOk (by kernel_rfl) (mkFunc (by kernel_rfl)) (by kernel_rfl) (fun _ => by kernel_rfl)
def inf65 : Inf := ⟨.func, 1, 8, .nilFunc⟩
theorem ok65 : InfOk Tryz.prog 65 inf65 := mkOk (by kernel_rfl) (mkFunc (by kernel_rfl)) (by kernel_rfl) (fun _ => by kernel_rfl)
def inf66 : Inf := ⟨.func, 1, 8, .nilFunc⟩
theorem ok66 : InfOk Tryz.prog 66 inf66 := mkOk (by kernel_rfl) (mkFunc (by kernel_rfl)) (by kernel_rfl) (fun _ => by kernel_rfl)
def inf67 : Inf := ⟨(.struct [(0, 62), (1, 62), (2, 3)]), 3, 56, (.agg #[(.slice none 0 0), (.slice none 0 0), (.int .i64 0)])⟩
theorem ok67 : InfOk Tryz.prog 67 inf67 := mkOk (by kernel_rfl) (mkStruct (by kernel_rfl)) (by kernel_rfl) (fun h => by cases h)
def inf68 : Inf := ⟨(.struct [(0, 62), (1, 62), (2, 3)]), 3, 56, (.agg #[(.slice none 0 0), (.slice none 0 0), (.int .i64 0)])⟩
theorem ok68 : InfOk Tryz.prog 68 inf68 := mkOk (by kernel_rfl) (mkStruct (by kernel_rfl)) (by kernel_rfl) (fun h => by cases h)
def inf69 : Inf := ⟨.func, 1, 8, .nilFunc⟩
theorem ok69 : InfOk Tryz.prog 69 inf69 := mkOk (by kernel_rfl) (mkFunc (by kernel_rfl)) (by kernel_rfl) (fun _ => by kernel_rfl)
def inf70 : Inf := ⟨.func, 1, 8, .nilFunc⟩
theorem ok70 : InfOk Tryz.prog 70 inf70 := mkOk (by kernel_rfl) (mkFunc (by kernel_rfl)) (by kernel_rfl) (fun _ => by kernel_rfl)
def inf72 : Inf := ⟨.func, 1, 8, .nilFunc⟩
theorem ok72 : InfOk Tryz.prog 72 inf72 := mkOk (by kernel_rfl) (mkFunc (by kernel_rfl)) (by kernel_rfl) (fun _ => by kernel_rfl)
def inf73 : Inf := ⟨.func, 1, 8, .nilFunc⟩
theorem ok73 : InfOk Tryz.prog 73 inf73 := mkOk (by kernel_rfl) (mkFunc (by kernel_rfl)) (by kernel_rfl) (fun _ => by kernel_rfl)
def inf75 : Inf := ⟨.func, 1, 8, .nilFunc⟩
theorem ok75 : InfOk Tryz.prog 75 inf75 := mkOk (by kernel_rfl) (mkFunc (by kernel_rfl)) (by kernel_rfl) (fun _ => by kernel_rfl)
def inf76 : Inf := ⟨(.arr 12 34), 12, 96, (.agg (List.replicate 12 (.int .u64 0)).toArray)⟩
theorem ok76 : InfOk Tryz.prog 76 inf76 := mkOk (by kernel_rfl) (show Tryz.prog.underlying 76 = some (.array 12 34) by kernel_rfl) (by kernel_rfl) (fun h => by cases h)
def inf77 : Inf := ⟨.func, 1, 8, .nilFunc⟩
theorem ok77 : InfOk Tryz.prog 77 inf77 := mkOk (by kernel_rfl) (mkFunc (by kernel_rfl)) (by kernel_rfl) (fun _ => by kernel_rfl)
def inf79 : Inf := ⟨.func, 1, 8, .nilFunc⟩
theorem ok79 : InfOk Tryz.prog 79 inf79 := mkOk (by kernel_rfl) (mkFunc (by kernel_rfl)) (by kernel_rfl) (fun _ => by kernel_rfl)
def inf80 : Inf := ⟨.func, 1, 8, .nilFunc⟩
theorem ok80 : InfOk Tryz.prog 80 inf80 := mkOk (by kernel_rfl) (mkFunc (by kernel_rfl)) (by kernel_rfl) (fun _ => by kernel_rfl)
def inf81 : Inf := ⟨.func, 1, 8, .nilFunc⟩
theorem ok81 : InfOk Tryz.prog 81 inf81 := mkOk (by kernel_rfl) (mkFunc (by kernel_rfl)) (by kernel_rfl) (fun _ => by kernel_rfl)
def inf82 : Inf := ⟨.func, 1, 8, .nilFunc⟩
theorem ok82 : InfOk Tryz.prog 82 inf82 := mkOk (by kernel_rfl) (mkFunc (by kernel_rfl)) (by kernel_rfl) (fun _ => by kernel_rfl)
def inf84 : Inf := ⟨.func, 1, 8, .nilFunc⟩
theorem ok84 : InfOk Tryz.prog 84 inf84 := mkOk (by kernel_rfl) (mkFunc (by kernel_rfl)) (by kernel_rfl) (fun _ => by kernel_rfl)
def inf85 : Inf := ⟨.func, 1, 8, .nilFunc⟩
theorem ok85 : InfOk Tryz.prog 85 inf85 := mkOk (by kernel_rfl) (mkFunc (by kernel_rfl)) (by kernel_rfl) (fun _ => by kernel_rfl)
def inf86 : Inf := ⟨.func, 1, 8, .nilFunc⟩
theorem ok86 : InfOk Tryz.prog 86 inf86 := mkOk (by kernel_rfl) (mkFunc (by kernel_rfl)) (by kernel_rfl) (fun _ => by kernel_rfl)
def inf88 : Inf := ⟨.func, 1, 8, .nilFunc⟩
theorem ok88 : InfOk Tryz.prog 88 inf88 := mkOk (by kernel_rfl) (mkFunc (by kernel_rfl)) (by kernel_rfl) (fun _ => by kernel_rfl)
def inf89 : Inf := ⟨.func, 1, 8, .nilFunc⟩
theorem ok89 : InfOk Tryz.prog 89 inf89 := mkOk (by kernel_rfl) (mkFunc (by kernel_rfl)) (by kernel_rfl) (fun _ => by kernel_rfl)
def inf90 : Inf := ⟨(.ptr 117), 1, 8, (.pointer none)⟩
theorem ok90 : InfOk Tryz.prog 90 inf90 := mkOk (by kernel_rfl) (show Tryz.prog.underlying 90 = some (.pointer 117) by kernel_rfl) (by kernel_rfl) (fun _ => by kernel_rfl)
def inf91 : Inf := ⟨.func, 1, 8, .nilFunc⟩
theorem ok91 : InfOk Tryz.prog 91 inf91 := mkOk (by kernel_rfl) (mkFunc (by kernel_rfl)) (by kernel_rfl) (fun _ => by kernel_rfl)
def inf92 : Inf := ⟨.func, 1, 8, .nilFunc⟩
theorem ok92 : InfOk Tryz.prog 92 inf92 := mkOk (by kernel_rfl) (mkFunc (by kernel_rfl)) (by kernel_rfl) (fun _ => by kernel_rfl)
def inf93 : Inf := ⟨.func, 1, 8, .nilFunc⟩
theorem ok93 : InfOk Tryz.prog 93 inf93 := mkOk (by kernel_rfl) (mkFunc (by kernel_rfl)) (by kernel_rfl) (fun _ => by kernel_rfl)
def inf94 : Inf := ⟨.func, 1, 8, .nilFunc⟩
theorem ok94 : InfOk Tryz.prog 94 inf94 := mkOk (by kernel_rfl) (mkFunc (by kernel_rfl)) (by kernel_rfl) (fun _ => by kernel_rfl)
def inf95 : Inf := ⟨.func, 1, 8, .nilFunc⟩
theorem ok95 : InfOk Tryz.prog 95 inf95 := mkOk (by kernel_rfl) (mkFunc (by kernel_rfl)) (by kernel_rfl) (fun _ => by kernel_rfl)
def inf97 : Inf := ⟨.func, 1, 8, .nilFunc⟩
theorem ok97 : InfOk Tryz.prog 97 inf97 := mkOk (by kernel_rfl) (mkFunc (by kernel_rfl)) (by kernel_rfl) (fun _ => by kernel_rfl)
def inf98 : Inf := ⟨.func, 1, 8, .nilFunc⟩
theorem ok98 : InfOk Tryz.prog 98 inf98 := mkOk (by kernel_rfl) (mkFunc (by kernel_rfl)) (by kernel_rfl) (fun _ => by kernel_rfl)
def inf99 : Inf := ⟨.func, 1, 8, .nilFunc⟩
theorem ok99 : InfOk Tryz.prog 99 inf99 := mkOk (by kernel_rfl) (mkFunc (by kernel_rfl)) (by kernel_rfl) (fun _ => by kernel_rfl)
def inf100 : Inf := ⟨.func, 1, 8, .nilFunc⟩
theorem ok100 : InfOk Tryz.prog 100 inf100 := mkOk (by kernel_rfl) (mkFunc (by kernel_rfl)) (by kernel_rfl) (fun _ => by kernel_rfl)
def inf101 : Inf := ⟨.func, 1, 8, .nilFunc⟩
theorem ok101 : InfOk Tryz.prog 101 inf101 := mkOk (by kernel_rfl) (mkFunc (by kernel_rfl)) (by kernel_rfl) (fun _ => by kernel_rfl)
def inf103 : Inf := ⟨.func, 1, 8, .nilFunc⟩
theorem ok103 : InfOk Tryz.prog 103 inf103 := mkOk (by kernel_rfl) (mkFunc (by kernel_rfl)) (by kernel_rfl) (fun _ => by kernel_rfl)
def inf104 : Inf := ⟨.func, 1, 8, .nilFunc⟩
theorem ok104 : InfOk Tryz.prog 104 inf104 := mkOk (by kernel_rfl) (mkFunc (by kernel_rfl)) (by kernel_rfl) (fun _ => by kernel_rfl)
def inf105 : Inf := ⟨.func, 1, 8, .nilFunc⟩
theorem ok105 : InfOk Tryz.prog 105 inf105 := mkOk (by kernel_rfl) (mkFunc (by kernel_rfl)) (by kernel_rfl) (fun _ => by kernel_rfl)
def inf106 : Inf := ⟨.func, 1, 8, .nilFunc⟩
theorem ok106 : InfOk Tryz.prog 106 inf106 := mkOk (by kernel_rfl) (mkFunc (by kernel_rfl)) (by kernel_rfl) (fun _ => by kernel_rfl)
def inf107 : Inf := ⟨.func, 1, 8, .nilFunc⟩
theorem ok107 : InfOk Tryz.prog 107 inf107 := mkOk (by kernel_rfl) (mkFunc (by kernel_rfl)) (by kernel_rfl) (fun _ => by kernel_rfl)
def inf108 : Inf := ⟨.func, 1, 8, .nilFunc⟩
theorem ok108 : InfOk Tryz.prog 108 inf108 := mkOk (by kernel_rfl) (mkFunc (by kernel_rfl)) (by kernel_rfl) (fun _ => by kernel_rfl)
def inf109 : Inf := ⟨(.slice 62), 1, 24, (.slice none 0 0)⟩
theorem ok109 : InfOk Tryz.prog 109 inf109 := mkOk (by kernel_rfl) (show Tryz.prog.underlying 109 = some (.slice 62) by kernel_rfl) (by kernel_rfl) (fun _ => by kernel_rfl)
def inf110 : Inf := ⟨.func, 1, 8, .nilFunc⟩
theorem ok110 : InfOk Tryz.prog 110 inf110 := mkOk (by kernel_rfl) (mkFunc (by kernel_rfl)) (by kernel_rfl) (fun _ => by kernel_rfl)
def inf111 : Inf := ⟨(.arr 11 34), 11, 88, (.agg (List.replicate 11 (.int .u64 0)).toArray)⟩
theorem ok111 : InfOk Tryz.prog 111 inf111 := mkOk (by kernel_rfl) (show Tryz.prog.underlying 111 = some (.array 11 34) by kernel_rfl) (by kernel_rfl) (fun h => by cases h)
def inf112 : Inf := ⟨(.int .u32), 1, 4, (.int .u32 0)⟩
theorem ok112 : InfOk Tryz.prog 112 inf112 := mkOk (by kernel_rfl) (show Tryz.prog.underlying 112 = some (.int .u32) by kernel_rfl) (by kernel_rfl) (fun _ => by kernel_rfl)
def inf114 : Inf := ⟨.func, 1, 8, .nilFunc⟩
theorem ok114 : InfOk Tryz.prog 114 inf114 := mkOk (by kernel_rfl) (mkFunc (by kernel_rfl)) (by kernel_rfl) (fun _ => by kernel_rfl)
def inf115 : Inf := ⟨(.slice 23), 1, 24, (.slice none 0 0)⟩
theorem ok115 : InfOk Tryz.prog 115 inf115 := mkOk (by kernel_rfl) (show Tryz.prog.underlying 115 = some (.slice 23) by kernel_rfl) (by kernel_rfl) (fun _ => by kernel_rfl)
def inf116 : Inf := ⟨(.struct [(0, 22), (1, 34), (2, 22), (3, 22)]), 4, 80, (.agg #[(.slice none 0 0), (.int .u64 0), (.slice none 0 0), (.slice none 0 0)])⟩
theorem ok116 : InfOk Tryz.prog 116 inf116 := mkOk (by kernel_rfl) (mkStruct (by kernel_rfl)) (by kernel_rfl) (fun h => by cases h)
def inf117 : Inf := ⟨(.struct [(0, 22), (1, 34), (2, 22), (3, 22)]), 4, 80, (.agg #[(.slice none 0 0), (.int .u64 0), (.slice none 0 0), (.slice none 0 0)])⟩
theorem ok117 : InfOk Tryz.prog 117 inf117 := mkOk (by kernel_rfl) (mkStruct (by kernel_rfl)) (by kernel_rfl) (fun h => by cases h)
def inf118 : Inf := ⟨.func, 1, 8, .nilFunc⟩
theorem ok118 : InfOk Tryz.prog 118 inf118 := mkOk (by kernel_rfl) (mkFunc (by kernel_rfl)) (by kernel_rfl) (fun _ => by kernel_rfl)
def inf119 : Inf := ⟨.func, 1, 8, .nilFunc⟩
theorem ok119 : InfOk Tryz.prog 119 inf119 := mkOk (by kernel_rfl) (mkFunc (by kernel_rfl)) (by kernel_rfl) (fun _ => by kernel_rfl)
def inf120 : Inf := ⟨.func, 1, 8, .nilFunc⟩
theorem ok120 : InfOk Tryz.prog 120 inf120 := mkOk (by kernel_rfl) (mkFunc (by kernel_rfl)) (by kernel_rfl) (fun _ => by kernel_rfl)
def inf121 : Inf := ⟨.func, 1, 8, .nilFunc⟩
theorem ok121 : InfOk Tryz.prog 121 inf121 := mkOk (by kernel_rfl) (mkFunc (by kernel_rfl)) (by kernel_rfl) (fun _ => by kernel_rfl)
def inf122 : Inf := ⟨(.ptr 135), 1, 8, (.pointer none)⟩
theorem ok122 : InfOk Tryz.prog 122 inf122 := mkOk (by kernel_rfl) (show Tryz.prog.underlying 122 = some (.pointer 135) by kernel_rfl) (by kernel_rfl) (fun _ => by kernel_rfl)
def inf123 : Inf := ⟨(.struct [(0, 122), (1, 122)]), 2, 16, (.agg #[(.pointer none), (.pointer none)])⟩
theorem ok123 : InfOk Tryz.prog 123 inf123 := mkOk (by kernel_rfl) (mkStruct (by kernel_rfl)) (by kernel_rfl) (fun h => by cases h)
def inf124 : Inf := ⟨(.struct [(0, 122), (1, 122)]), 2, 16, (.agg #[(.pointer none), (.pointer none)])⟩
theorem ok124 : InfOk Tryz.prog 124 inf124 := mkOk (by kernel_rfl) (mkStruct (by kernel_rfl)) (by kernel_rfl) (fun h => by cases h)
def inf125 : Inf := ⟨.func, 1, 8, .nilFunc⟩
theorem ok125 : InfOk Tryz.prog 125 inf125 := mkOk (by kernel_rfl) (mkFunc (by kernel_rfl)) (by kernel_rfl) (fun _ => by kernel_rfl)
def inf126 : Inf := ⟨.iface, 1, 16, .nilIface⟩
theorem ok126 : InfOk Tryz.prog 126 inf126 := mkOk (by kernel_rfl) (mkIface (by kernel_rfl)) (by kernel_rfl) (fun _ => by kernel_rfl)
def inf127 : Inf := ⟨.iface, 1, 16, .nilIface⟩
theorem ok127 : InfOk Tryz.prog 127 inf127 := mkOk (by kernel_rfl) (mkIface (by kernel_rfl)) (by kernel_rfl) (fun _ => by kernel_rfl)
def inf128 : Inf := ⟨.func, 1, 8, .nilFunc⟩
theorem ok128 : InfOk Tryz.prog 128 inf128 := mkOk (by kernel_rfl) (mkFunc (by kernel_rfl)) (by kernel_rfl) (fun _ => by kernel_rfl)
def inf129 : Inf := ⟨.func, 1, 8, .nilFunc⟩
theorem ok129 : InfOk Tryz.prog 129 inf129 := mkOk (by kernel_rfl) (mkFunc (by kernel_rfl)) (by kernel_rfl) (fun _ => by kernel_rfl)
def inf130 : Inf := ⟨.func, 1, 8, .nilFunc⟩
theorem ok130 : InfOk Tryz.prog 130 inf130 := mkOk (by kernel_rfl) (mkFunc (by kernel_rfl)) (by kernel_rfl) (fun _ => by kernel_rfl)
def inf131 : Inf := ⟨.func, 1, 8, .nilFunc⟩
theorem ok131 : InfOk Tryz.prog 131 inf131 := mkOk (by kernel_rfl) (mkFunc (by kernel_rfl)) (by kernel_rfl) (fun _ => by kernel_rfl)
def inf132 : Inf := ⟨(.arr 8 34), 8, 64, (.agg (List.replicate 8 (.int .u64 0)).toArray)⟩
theorem ok132 : InfOk Tryz.prog 132 inf132 := mkOk (by kernel_rfl) (show Tryz.prog.underlying 132 = some (.array 8 34) by kernel_rfl) (by kernel_rfl) (fun h => by cases h)
def inf133 : Inf := ⟨.func, 1, 8, .nilFunc⟩
theorem ok133 : InfOk Tryz.prog 133 inf133 := mkOk (by kernel_rfl) (mkFunc (by kernel_rfl)) (by kernel_rfl) (fun _ => by kernel_rfl)
def inf134 : Inf := ⟨(.struct [(0, 3), (1, 132), (9, 62), (10, 34)]), 11, 104, (.agg #[(.int .i64 0), (.int .u64 0), (.int .u64 0), (.int .u64 0), (.int .u64 0), (.int .u64 0), (.int .u64 0), (.int .u64 0), (.int .u64 0), (.slice none 0 0), (.int .u64 0)])⟩
theorem ok134 : InfOk Tryz.prog 134 inf134 := mkOk (by kernel_rfl) (mkStruct (by kernel_rfl)) (by kernel_rfl) (fun h => by cases h)
def inf135 : Inf := ⟨(.struct [(0, 3), (1, 132), (9, 62), (10, 34)]), 11, 104, (.agg #[(.int .i64 0), (.int .u64 0), (.int .u64 0), (.int .u64 0), (.int .u64 0), (.int .u64 0), (.int .u64 0), (.int .u64 0), (.int .u64 0), (.slice none 0 0), (.int .u64 0)])⟩
theorem ok135 : InfOk Tryz.prog 135 inf135 := mkOk (by kernel_rfl) (mkStruct (by kernel_rfl)) (by kernel_rfl) (fun h => by cases h)
def inf136 : Inf := ⟨.func, 1, 8, .nilFunc⟩
theorem ok136 : InfOk Tryz.prog 136 inf136 := mkOk (by kernel_rfl) (mkFunc (by kernel_rfl)) (by kernel_rfl) (fun _ => by kernel_rfl)
def inf137 : Inf := ⟨.func, 1, 8, .nilFunc⟩
theorem ok137 : InfOk Tryz.prog 137 inf137 := mkOk (by kernel_rfl) (mkFunc (by kernel_rfl)) (by kernel_rfl) (fun _ => by kernel_rfl)
def inf138 : Inf := ⟨.func, 1, 8, .nilFunc⟩
theorem ok138 : InfOk Tryz.prog 138 inf138 := mkOk (by kernel_rfl) (mkFunc (by kernel_rfl)) (by kernel_rfl) (fun _ => by kernel_rfl)
def inf139 : Inf := ⟨.func, 1, 8, .nilFunc⟩
theorem ok139 : InfOk Tryz.prog 139 inf139 := mkOk (by kernel_rfl) (mkFunc (by kernel_rfl)) (by kernel_rfl) (fun _ => by kernel_rfl)
def inf140 : Inf := ⟨.func, 1, 8, .nilFunc⟩
theorem ok140 : InfOk Tryz.prog 140 inf140 := mkOk (by kernel_rfl) (mkFunc (by kernel_rfl)) (by kernel_rfl) (fun _ => by kernel_rfl)
def inf141 : Inf := ⟨.func, 1, 8, .nilFunc⟩
theorem ok141 : InfOk Tryz.prog 141 inf141 := mkOk (by kernel_rfl) (mkFunc (by kernel_rfl)) (by kernel_rfl) (fun _ => by kernel_rfl)
def inf142 : Inf := ⟨.func, 1, 8, .nilFunc⟩
theorem ok142 : InfOk Tryz.prog 142 inf142 := mkOk (by kernel_rfl) (mkFunc (by kernel_rfl)) (by kernel_rfl) (fun _ => by kernel_rfl)
def inf143 : Inf := ⟨.func, 1, 8, .nilFunc⟩
theorem ok143 : InfOk Tryz.prog 143 inf143 := mkOk (by kernel_rfl) (mkFunc (by kernel_rfl)) (by kernel_rfl) (fun _ => by kernel_rfl)
def inf144 : Inf := ⟨(.arr 80 112), 80, 320, (.agg (List.replicate 80 (.int .u32 0)).toArray)⟩
theorem ok144 : InfOk Tryz.prog 144 inf144 := mkOk (by kernel_rfl) (show Tryz.prog.underlying 144 = some (.array 80 112) by kernel_rfl) (by kernel_rfl) (fun h => by cases h)
def inf145 : Inf := ⟨.func, 1, 8, .nilFunc⟩
theorem ok145 : InfOk Tryz.prog 145 inf145 := mkOk (by kernel_rfl) (mkFunc (by kernel_rfl)) (by kernel_rfl) (fun _ => by kernel_rfl)
def inf146 : Inf := ⟨.func, 1, 8, .nilFunc⟩
theorem ok146 : InfOk Tryz.prog 146 inf146 := mkOk (by kernel_rfl) (mkFunc (by kernel_rfl)) (by kernel_rfl) (fun _ => by kernel_rfl)
def inf147 : Inf := ⟨(.slice 112), 1, 24, (.slice none 0 0)⟩
theorem ok147 : InfOk Tryz.prog 147 inf147 := mkOk (by kernel_rfl) (show Tryz.prog.underlying 147 = some (.slice 112) by kernel_rfl) (by kernel_rfl) (fun _ => by kernel_rfl)
def inf148 : Inf := ⟨(.arr 64 112), 64, 256, (.agg (List.replicate 64 (.int .u32 0)).toArray)⟩
theorem ok148 : InfOk Tryz.prog 148 inf148 := mkOk (by kernel_rfl) (show Tryz.prog.underlying 148 = some (.array 64 112) by kernel_rfl) (by kernel_rfl) (fun h => by cases h)
def inf149 : Inf := ⟨(.arr 8 112), 8, 32, (.agg (List.replicate 8 (.int .u32 0)).toArray)⟩
theorem ok149 : InfOk Tryz.prog 149 inf149 := mkOk (by kernel_rfl) (show Tryz.prog.underlying 149 = some (.array 8 112) by kernel_rfl) (by kernel_rfl) (fun h => by cases h)
def inf150 : Inf := ⟨(.arr 80 34), 80, 640, (.agg (List.replicate 80 (.int .u64 0)).toArray)⟩
theorem ok150 : InfOk Tryz.prog 150 inf150 := mkOk (by kernel_rfl) (show Tryz.prog.underlying 150 = some (.array 80 34) by kernel_rfl) (by kernel_rfl) (fun h => by cases h)
def inf151 : Inf := ⟨.func, 1, 8, .nilFunc⟩
theorem ok151 : InfOk Tryz.prog 151 inf151 := mkOk (by kernel_rfl) (mkFunc (by kernel_rfl)) (by kernel_rfl) (fun _ => by kernel_rfl)
def inf152 : Inf := ⟨.func, 1, 8, .nilFunc⟩
theorem ok152 : InfOk Tryz.prog 152 inf152 := mkOk (by kernel_rfl) (mkFunc (by kernel_rfl)) (by kernel_rfl) (fun _ => by kernel_rfl)
def inf153 : Inf := ⟨(.ptr 170), 1, 8, (.pointer none)⟩
theorem ok153 : InfOk Tryz.prog 153 inf153 := mkOk (by kernel_rfl) (show Tryz.prog.underlying 153 = some (.pointer 170) by kernel_rfl) (by kernel_rfl) (fun _ => by kernel_rfl)
def inf154 : Inf := ⟨.func, 1, 8, .nilFunc⟩
theorem ok154 : InfOk Tryz.prog 154 inf154 := mkOk (by kernel_rfl) (mkFunc (by kernel_rfl)) (by kernel_rfl) (fun _ => by kernel_rfl)
def inf155 : Inf := ⟨(.struct [(0, 17), (1, 17), (2, 17), (3, 9)]), 4, 40, (.agg #[(.pointer none), (.pointer none), (.pointer none), (.string .empty)])⟩
theorem ok155 : InfOk Tryz.prog 155 inf155 := mkOk (by kernel_rfl) (mkStruct (by kernel_rfl)) (by kernel_rfl) (fun h => by cases h)
def inf156 : Inf := ⟨(.struct [(0, 17), (1, 17), (2, 17), (3, 9)]), 4, 40, (.agg #[(.pointer none), (.pointer none), (.pointer none), (.string .empty)])⟩
theorem ok156 : InfOk Tryz.prog 156 inf156 := mkOk (by kernel_rfl) (mkStruct (by kernel_rfl)) (by kernel_rfl) (fun h => by cases h)
def inf157 : Inf := ⟨(.arr 0 16), 0, 0, (.agg #[])⟩
theorem ok157 : InfOk Tryz.prog 157 inf157 := mkOk (by kernel_rfl) (show Tryz.prog.underlying 157 = some (.array 0 16) by kernel_rfl) (by kernel_rfl) (fun h => by cases h)
def inf158 : Inf := ⟨(.struct [(0, 157)]), 0, 0, (.agg #[])⟩
theorem ok158 : InfOk Tryz.prog 158 inf158 := mkOk (by kernel_rfl) (mkStruct (by kernel_rfl)) (by kernel_rfl) (fun h => by cases h)
def inf159 : Inf := ⟨(.struct [(0, 157)]), 0, 0, (.agg #[])⟩
theorem ok159 : InfOk Tryz.prog 159 inf159 := mkOk (by kernel_rfl) (mkStruct (by kernel_rfl)) (by kernel_rfl) (fun h => by cases h)
def inf160 : Inf := ⟨.func, 1, 8, .nilFunc⟩
theorem ok160 : InfOk Tryz.prog 160 inf160 := mkOk (by kernel_rfl) (mkFunc (by kernel_rfl)) (by kernel_rfl) (fun _ => by kernel_rfl)
def inf161 : Inf := ⟨(.int .u8), 1, 1, (.int .u8 0)⟩
theorem ok161 : InfOk Tryz.prog 161 inf161 := mkOk (by kernel_rfl) (show Tryz.prog.underlying 161 = some (.int .u8) by kernel_rfl) (by kernel_rfl) (fun _ => by kernel_rfl)
def inf162 : Inf := ⟨(.int .u8), 1, 1, (.int .u8 0)⟩
theorem ok162 : InfOk Tryz.prog 162 inf162 := mkOk (by kernel_rfl) (show Tryz.prog.underlying 162 = some (.int .u8) by kernel_rfl) (by kernel_rfl) (fun _ => by kernel_rfl)
def inf163 : Inf := ⟨.func, 1, 8, .nilFunc⟩
theorem ok163 : InfOk Tryz.prog 163 inf163 := mkOk (by kernel_rfl) (mkFunc (by kernel_rfl)) (by kernel_rfl) (fun _ => by kernel_rfl)
def inf164 : Inf := ⟨(.ptr 5), 1, 8, (.pointer none)⟩
theorem ok164 : InfOk Tryz.prog 164 inf164 := mkOk (by kernel_rfl) (show Tryz.prog.underlying 164 = some (.pointer 5) by kernel_rfl) (by kernel_rfl) (fun _ => by kernel_rfl)
def inf165 : Inf := ⟨(.int .i32), 1, 4, (.int .i32 0)⟩
theorem ok165 : InfOk Tryz.prog 165 inf165 := mkOk (by kernel_rfl) (show Tryz.prog.underlying 165 = some (.int .i32) by kernel_rfl) (by kernel_rfl) (fun _ => by kernel_rfl)
def inf166 : Inf := ⟨(.int .i32), 1, 4, (.int .i32 0)⟩
theorem ok166 : InfOk Tryz.prog 166 inf166 := mkOk (by kernel_rfl) (show Tryz.prog.underlying 166 = some (.int .i32) by kernel_rfl) (by kernel_rfl) (fun _ => by kernel_rfl)
def inf167 : Inf := ⟨(.struct [(0, 12), (1, 12), (2, 112), (3, 161), (4, 5), (5, 5), (6, 162), (7, 163), (8, 164), (9, 165), (10, 166)]), 11, 48, (.agg #[(.int .u64 0), (.int .u64 0), (.int .u32 0), (.int .u8 0), (.int .u8 0), (.int .u8 0), (.int .u8 0), .nilFunc, (.pointer none), (.int .i32 0), (.int .i32 0)])⟩
theorem ok167 : InfOk Tryz.prog 167 inf167 := mkOk (by kernel_rfl) (mkStruct (by kernel_rfl)) (by kernel_rfl) (fun h => by cases h)
def inf168 : Inf := ⟨(.struct [(0, 12), (1, 12), (2, 112), (3, 161), (4, 5), (5, 5), (6, 162), (7, 163), (8, 164), (9, 165), (10, 166)]), 11, 48, (.agg #[(.int .u64 0), (.int .u64 0), (.int .u32 0), (.int .u8 0), (.int .u8 0), (.int .u8 0), (.int .u8 0), .nilFunc, (.pointer none), (.int .i32 0), (.int .i32 0)])⟩
theorem ok168 : InfOk Tryz.prog 168 inf168 := mkOk (by kernel_rfl) (mkStruct (by kernel_rfl)) (by kernel_rfl) (fun h => by cases h)
def inf169 : Inf := ⟨(.struct [(0, 9)]), 1, 16, (.agg #[(.string .empty)])⟩
theorem ok169 : InfOk Tryz.prog 169 inf169 := mkOk (by kernel_rfl) (mkStruct (by kernel_rfl)) (by kernel_rfl) (fun h => by cases h)
def inf170 : Inf := ⟨(.struct [(0, 9)]), 1, 16, (.agg #[(.string .empty)])⟩
theorem ok170 : InfOk Tryz.prog 170 inf170 := mkOk (by kernel_rfl) (mkStruct (by kernel_rfl)) (by kernel_rfl) (fun h => by cases h)
def tys : Tab := fun t => (bif Nat.blt t 86 then (bif Nat.blt t 42 then (bif Nat.blt t 21 then (bif Nat.blt t 11 then (bif Nat.blt t 6 then (bif Nat.blt t 3 then (bif Nat.blt t 2 then (bif Nat.beq t 1 then some inf1 else none) else (bif Nat.beq t 2 then some inf2 else none)) else (bif Nat.blt t 4 then (bif Nat.beq t 3 then some inf3 else none) else (bif Nat.blt t 5 then (bif Nat.beq t 4 then some inf4 else none) else (bif Nat.beq t 5 then some inf5 else none)))) else (bif Nat.blt t 8 then (bif Nat.blt t 7 then (bif Nat.beq t 6 then some inf6 else none) else (bif Nat.beq t 7 then some inf7 else none)) else (bif Nat.blt t 9 then (bif Nat.beq t 8 then some inf8 else none) else (bif Nat.blt t 10 then (bif Nat.beq t 9 then some inf9 else none) else (bif Nat.beq t 10 then some inf10 else none))))) else (bif Nat.blt t 16 then (bif Nat.blt t 13 then (bif Nat.blt t 12 then (bif Nat.beq t 11 then some inf11 else none) else (bif Nat.beq t 12 then some inf12 else none)) else (bif Nat.blt t 14 then (bif Nat.beq t 13 then some inf13 else none) else (bif Nat.blt t 15 then (bif Nat.beq t 14 then some inf14 else none) else (bif Nat.beq t 15 then some inf15 else none)))) else (bif Nat.blt t 18 then (bif Nat.blt t 17 then (bif Nat.beq t 16 then some inf16 else none) else (bif Nat.beq t 17 then some inf17 else none)) else (bif Nat.blt t 19 then (bif Nat.beq t 18 then some inf18 else none) else (bif Nat.blt t 20 then (bif Nat.beq t 19 then some inf19 else none) else (bif Nat.beq t 20 then some inf20 else none)))))) else (bif Nat.blt t 31 then (bif Nat.blt t 26 then (bif Nat.blt t 23 then (bif Nat.blt t 22 then (bif Nat.beq t 21 then some inf21 else none) else (bif Nat.beq t 22 then some inf22 else none)) else (bif Nat.blt t 24 then (bif Nat.beq t 23 then some inf23 else none) else (bif Nat.blt t 25 then (bif Nat.beq t 24 then some inf24 else none) else (bif Nat.beq t 25 then some inf25 else none)))) else (bif Nat.blt t 28 then (bif Nat.blt t 27 then (bif Nat.beq t 26 then some inf26 else none) else (bif Nat.beq t 27 then some inf27 else none)) else (bif Nat.blt t 29 then (bif Nat.beq t 28 then some inf28 else none) else (bif Nat.blt t 30 then (bif Nat.beq t 29 then some inf29 else none) else (bif Nat.beq t 30 then some inf30 else none))))) else (bif Nat.blt t 37 then (bif Nat.blt t 33 then (bif Nat.blt t 32 then (bif Nat.beq t 31 then some inf31 else none) else (bif Nat.beq t 32 then some inf32 else none)) else (bif Nat.blt t 34 then (bif Nat.beq t 33 then some inf33 else none) else (bif Nat.blt t 36 then (bif Nat.beq t 34 then some inf34 else none) else (bif Nat.beq t 36 then some inf36 else none)))) else (bif Nat.blt t 39 then (bif Nat.blt t 38 then (bif Nat.beq t 37 then some inf37 else none) else (bif Nat.beq t 38 then some inf38 else none)) else (bif Nat.blt t 40 then (bif Nat.beq t 39 then some inf39 else none) else (bif Nat.blt t 41 then (bif Nat.beq t 40 then some inf40 else none) else (bif Nat.beq t 41 then some inf41 else none))))))) else (bif Nat.blt t 62 then (bif Nat.blt t 52 then (bif Nat.blt t 47 then (bif Nat.blt t 44 then (bif Nat.blt t 43 then (bif Nat.beq t 42 then some inf42 else none) else (bif Nat.beq t 43 then some inf43 else none)) else (bif Nat.blt t 45 then (bif Nat.beq t 44 then some inf44 else none) else (bif Nat.blt t 46 then (bif Nat.beq t 45 then some inf45 else none) else (bif Nat.beq t 46 then some inf46 else none)))) else (bif Nat.blt t 49 then (bif Nat.blt t 48 then (bif Nat.beq t 47 then some inf47 else none) else (bif Nat.beq t 48 then some inf48 else none)) else (bif Nat.blt t 50 then (bif Nat.beq t 49 then some inf49 else none) else (bif Nat.blt t 51 then (bif Nat.beq t 50 then some inf50 else none) else (bif Nat.beq t 51 then some inf51 else none))))) else (bif Nat.blt t 57 then (bif Nat.blt t 54 then (bif Nat.blt t 53 then (bif Nat.beq t 52 then some inf52 else none) else (bif Nat.beq t 53 then some inf53 else none)) else (bif Nat.blt t 55 then (bif Nat.beq t 54 then some inf54 else none) else (bif Nat.blt t 56 then (bif Nat.beq t 55 then some inf55 else none) else (bif Nat.beq t 56 then some inf56 else none)))) else (bif Nat.blt t 59 then (bif Nat.blt t 58 then (bif Nat.beq t 57 then some inf57 else none) else (bif Nat.beq t 58 then some inf58 else none)) else (bif Nat.blt t 60 then (bif Nat.beq t 59 then some inf59 else none) else (bif Nat.blt t 61 then (bif Nat.beq t 60 then some inf60 else none) else (bif Nat.beq t 61 then some inf61 else none)))))) else (bif Nat.blt t 73 then (bif Nat.blt t 67 then (bif Nat.blt t 64 then (bif Nat.blt t 63 then (bif Nat.beq t 62 then some inf62 else none) else (bif Nat.beq t 63 then some inf63 else none)) else (bif Nat.blt t 65 then (bif Nat.beq t 64 then some inf64 else none) else (bif Nat.blt t 66 then (bif Nat.beq t 65 then some inf65 else none) else (bif Nat.beq t 66 then some inf66 else none)))) else (bif Nat.blt t 69 then (bif Nat.blt t 68 then (bif Nat.beq t 67 then some inf67 else none) else (bif Nat.beq t 68 then some inf68 else none)) else (bif Nat.blt t 70 then (bif Nat.beq t 69 then some inf69 else none) else (bif Nat.blt t 72 then (bif Nat.beq t 70 then some inf70 else none) else (bif Nat.beq t 72 then some inf72 else none))))) else (bif Nat.blt t 80 then (bif Nat.blt t 76 then (bif Nat.blt t 75 then (bif Nat.beq t 73 then some inf73 else none) else (bif Nat.beq t 75 then some inf75 else none)) else (bif Nat.blt t 77 then (bif Nat.beq t 76 then some inf76 else none) else (bif Nat.blt t 79 then (bif Nat.beq t 77 then some inf77 else none) else (bif Nat.beq t 79 then some inf79 else none)))) else (bif Nat.blt t 82 then (bif Nat.blt t 81 then (bif Nat.beq t 80 then some inf80 else none) else (bif Nat.beq t 81 then some inf81 else none)) else (bif Nat.blt t 84 then (bif Nat.beq t 82 then some inf82 else none) else (bif Nat.blt t 85 then (bif Nat.beq t 84 then some inf84 else none) else (bif Nat.beq t 85 then some inf85 else none)))))))) else (bif Nat.blt t 130 then (bif Nat.blt t 109 then (bif Nat.blt t 98 then (bif Nat.blt t 92 then (bif Nat.blt t 89 then (bif Nat.blt t 88 then (bif Nat.beq t 86 then some inf86 else none) else (bif Nat.beq t 88 then some inf88 else none)) else (bif Nat.blt t 90 then (bif Nat.beq t 89 then some inf89 else none) else (bif Nat.blt t 91 then (bif Nat.beq t 90 then some inf90 else none) else (bif Nat.beq t 91 then some inf91 else none)))) else (bif Nat.blt t 94 then (bif Nat.blt t 93 then (bif Nat.beq t 92 then some inf92 else none) else (bif Nat.beq t 93 then some inf93 else none)) else (bif Nat.blt t 95 then (bif Nat.beq t 94 then some inf94 else none) else (bif Nat.blt t 97 then (bif Nat.beq t 95 then some inf95 else none) else (bif Nat.beq t 97 then some inf97 else none))))) else (bif Nat.blt t 104 then (bif Nat.blt t 100 then (bif Nat.blt t 99 then (bif Nat.beq t 98 then some inf98 else none) else (bif Nat.beq t 99 then some inf99 else none)) else (bif Nat.blt t 101 then (bif Nat.beq t 100 then some inf100 else none) else (bif Nat.blt t 103 then (bif Nat.beq t 101 then some inf101 else none) else (bif Nat.beq t 103 then some inf103 else none)))) else (bif Nat.blt t 106 then (bif Nat.blt t 105 then (bif Nat.beq t 104 then some inf104 else none) else (bif Nat.beq t 105 then some inf105 else none)) else (bif Nat.blt t 107 then (bif Nat.beq t 106 then some inf106 else none) else (bif Nat.blt t 108 then (bif Nat.beq t 107 then some inf107 else none) else (bif Nat.beq t 108 then some inf108 else none)))))) else (bif Nat.blt t 120 then (bif Nat.blt t 115 then (bif Nat.blt t 111 then (bif Nat.blt t 110 then (bif Nat.beq t 109 then some inf109 else none) else (bif Nat.beq t 110 then some inf110 else none)) else (bif Nat.blt t 112 then (bif Nat.beq t 111 then some inf111 else none) else (bif Nat.blt t 114 then (bif Nat.beq t 112 then some inf112 else none) else (bif Nat.beq t 114 then some inf114 else none)))) else (bif Nat.blt t 117 then (bif Nat.blt t 116 then (bif Nat.beq t 115 then some inf115 else none) else (bif Nat.beq t 116 then some inf116 else none)) else (bif Nat.blt t 118 then (bif Nat.beq t 117 then some inf117 else none) else (bif Nat.blt t 119 then (bif Nat.beq t 118 then some inf118 else none) else (bif Nat.beq t 119 then some inf119 else none))))) else (bif Nat.blt t 125 then (bif Nat.blt t 122 then (bif Nat.blt t 121 then (bif Nat.beq t 120 then some inf120 else none) else (bif Nat.beq t 121 then some inf121 else none)) else (bif Nat.blt t 123 then (bif Nat.beq t 122 then some inf122 else none) else (bif Nat.blt t 124 then (bif Nat.beq t 123 then some inf123 else none) else (bif Nat.beq t 124 then some inf124 else none)))) else (bif Nat.blt t 127 then (bif Nat.blt t 126 then (bif Nat.beq t 125 then some inf125 else none) else (bif Nat.beq t 126 then some inf126 else none)) else (bif Nat.blt t 128 then (bif Nat.beq t 127 then some inf127 else none) else (bif Nat.blt t 129 then (bif Nat.beq t 128 then some inf128 else none) else (bif Nat.beq t 129 then some inf129 else none))))))) else (bif Nat.blt t 150 then (bif Nat.blt t 140 then (bif Nat.blt t 135 then (bif Nat.blt t 132 then (bif Nat.blt t 131 then (bif Nat.beq t 130 then some inf130 else none) else (bif Nat.beq t 131 then some inf131 else none)) else (bif Nat.blt t 133 then (bif Nat.beq t 132 then some inf132 else none) else (bif Nat.blt t 134 then (bif Nat.beq t 133 then some inf133 else none) else (bif Nat.beq t 134 then some inf134 else none)))) else (bif Nat.blt t 137 then (bif Nat.blt t 136 then (bif Nat.beq t 135 then some inf135 else none) else (bif Nat.beq t 136 then some inf136 else none)) else (bif Nat.blt t 138 then (bif Nat.beq t 137 then some inf137 else none) else (bif Nat.blt t 139 then (bif Nat.beq t 138 then some inf138 else none) else (bif Nat.beq t 139 then some inf139 else none))))) else (bif Nat.blt t 145 then (bif Nat.blt t 142 then (bif Nat.blt t 141 then (bif Nat.beq t 140 then some inf140 else none) else (bif Nat.beq t 141 then some inf141 else none)) else (bif Nat.blt t 143 then (bif Nat.beq t 142 then some inf142 else none) else (bif Nat.blt t 144 then (bif Nat.beq t 143 then some inf143 else none) else (bif Nat.beq t 144 then some inf144 else none)))) else (bif Nat.blt t 147 then (bif Nat.blt t 146 then (bif Nat.beq t 145 then some inf145 else none) else (bif Nat.beq t 146 then some inf146 else none)) else (bif Nat.blt t 148 then (bif Nat.beq t 147 then some inf147 else none) else (bif Nat.blt t 149 then (bif Nat.beq t 148 then some inf148 else none) else (bif Nat.beq t 149 then some inf149 else none)))))) else (bif Nat.blt t 160 then (bif Nat.blt t 155 then (bif Nat.blt t 152 then (bif Nat.blt t 151 then (bif Nat.beq t 150 then some inf150 else none) else (bif Nat.beq t 151 then some inf151 else none)) else (bif Nat.blt t 153 then (bif Nat.beq t 152 then some inf152 else none) else (bif Nat.blt t 154 then (bif Nat.beq t 153 then some inf153 else none) else (bif Nat.beq t 154 then some inf154 else none)))) else (bif Nat.blt t 157 then (bif Nat.blt t 156 then (bif Nat.beq t 155 then some inf155 else none) else (bif Nat.beq t 156 then some inf156 else none)) else (bif Nat.blt t 158 then (bif Nat.beq t 157 then some inf157 else none) else (bif Nat.blt t 159 then (bif Nat.beq t 158 then some inf158 else none) else (bif Nat.beq t 159 then some inf159 else none))))) else (bif Nat.blt t 165 then (bif Nat.blt t 162 then (bif Nat.blt t 161 then (bif Nat.beq t 160 then some inf160 else none) else (bif Nat.beq t 161 then some inf161 else none)) else (bif Nat.blt t 163 then (bif Nat.beq t 162 then some inf162 else none) else (bif Nat.blt t 164 then (bif Nat.beq t 163 then some inf163 else none) else (bif Nat.beq t 164 then some inf164 else none)))) else (bif Nat.blt t 168 then (bif Nat.blt t 166 then (bif Nat.beq t 165 then some inf165 else none) else (bif Nat.blt t 167 then (bif Nat.beq t 166 then some inf166 else none) else (bif Nat.beq t 167 then some inf167 else none))) else (bif Nat.blt t 169 then (bif Nat.beq t 168 then some inf168 else none) else (bif Nat.blt t 170 then (bif Nat.beq t 169 then some inf169 else none) else (bif Nat.beq t 170 then some inf170 else none)))))))))
theorem tysOk : TabOk tys Tryz.prog := fun t i h => (node h (fun h => (node h (fun h => (node h (fun h => (node h (fun h => (node h (fun h => (node h (fun h => (node h (fun h => (leaf h ok1)) (fun h => (leaf h ok2)))) (fun h => (node h (fun h => (leaf h ok3)) (fun h => (node h (fun h => (leaf h ok4)) (fun h => (leaf h ok5)))))))) (fun h => (node h (fun h => (node h (fun h => (leaf h ok6)) (fun h => (leaf h ok7)))) (fun h => (node h (fun h => (leaf h ok8)) (fun h => (node h (fun h => (leaf h ok9)) (fun h => (leaf h ok10)))))))))) (fun h => (node h (fun h => (node h (fun h => (node h (fun h => (leaf h ok11)) (fun h => (leaf h ok12)))) (fun h => (node h (fun h => (leaf h ok13)) (fun h => (node h (fun h => (leaf h ok14)) (fun h => (leaf h ok15)))))))) (fun h => (node h (fun h => (node h (fun h => (leaf h ok16)) (fun h => (leaf h ok17)))) (fun h => (node h (fun h => (leaf h ok18)) (fun h => (node h (fun h => (leaf h ok19)) (fun h => (leaf h ok20)))))))))))) (fun h => (node h (fun h => (node h (fun h => (node h (fun h => (node h (fun h => (leaf h ok21)) (fun h => (leaf h ok22)))) (fun h => (node h (fun h => (leaf h ok23)) (fun h => (node h (fun h => (leaf h ok24)) (fun h => (leaf h ok25)))))))) (fun h => (node h (fun h => (node h (fun h => (leaf h ok26)) (fun h => (leaf h ok27)))) (fun h => (node h (fun h => (leaf h ok28)) (fun h => (node h (fun h => (leaf h ok29)) (fun h => (leaf h ok30)))))))))) (fun h => (node h (fun h => (node h (fun h => (node h (fun h => (leaf h ok31)) (fun h => (leaf h ok32)))) (fun h => (node h (fun h => (leaf h ok33)) (fun h => (node h (fun h => (leaf h ok34)) (fun h => (leaf h ok36)))))))) (fun h => (node h (fun h => (node h (fun h => (leaf h ok37)) (fun h => (leaf h ok38)))) (fun h => (node h (fun h => (leaf h ok39)) (fun h => (node h (fun h => (leaf h ok40)) (fun h => (leaf h ok41)))))))))))))) (fun h => (node h (fun h => (node h (fun h => (node h (fun h => (node h (fun h => (node h (fun h => (leaf h ok42)) (fun h => (leaf h ok43)))) (fun h => (node h (fun h => (leaf h ok44)) (fun h => (node h (fun h => (leaf h ok45)) (fun h => (leaf h ok46)))))))) (fun h => (node h (fun h => (node h (fun h => (leaf h ok47)) (fun h => (leaf h ok48)))) (fun h => (node h (fun h => (leaf h ok49)) (fun h => (node h (fun h => (leaf h ok50)) (fun h => (leaf h ok51)))))))))) (fun h => (node h (fun h => (node h (fun h => (node h (fun h => (leaf h ok52)) (fun h => (leaf h ok53)))) (fun h => (node h (fun h => (leaf h ok54)) (fun h => (node h (fun h => (leaf h ok55)) (fun h => (leaf h ok56)))))))) (fun h => (node h (fun h => (node h (fun h => (leaf h ok57)) (fun h => (leaf h ok58)))) (fun h => (node h (fun h => (leaf h ok59)) (fun h => (node h (fun h => (leaf h ok60)) (fun h => (leaf h ok61)))))))))))) (fun h => (node h (fun h => (node h (fun h => (node h (fun h => (node h (fun h => (leaf h ok62)) (fun h => (leaf h ok63)))) (fun h => (node h (fun h => (leaf h ok64)) (fun h => (node h (fun h => (leaf h ok65)) (fun h => (leaf h ok66)))))))) (fun h => (node h (fun h => (node h (fun h => (leaf h ok67)) (fun h => (leaf h ok68)))) (fun h => (node h (fun h => (leaf h ok69)) (fun h => (node h (fun h => (leaf h ok70)) (fun h => (leaf h ok72)))))))))) (fun h => (node h (fun h => (node h (fun h => (node h (fun h => (leaf h ok73)) (fun h => (leaf h ok75)))) (fun h => (node h (fun h => (leaf h ok76)) (fun h => (node h (fun h => (leaf h ok77)) (fun h => (leaf h ok79)))))))) (fun h => (node h (fun h => (node h (fun h => (leaf h ok80)) (fun h => (leaf h ok81)))) (fun h => (node h (fun h => (leaf h ok82)) (fun h => (node h (fun h => (leaf h ok84)) (fun h => (leaf h ok85)))))))))))))))) (fun h => (node h (fun h => (node h (fun h => (node h (fun h => (node h (fun h => (node h (fun h => (node h (fun h => (leaf h ok86)) (fun h => (leaf h ok88)))) (fun h => (node h (fun h => (leaf h ok89)) (fun h => (node h (fun h => (leaf h ok90)) (fun h => (leaf h ok91)))))))) (fun h => (node h (fun h => (node h (fun h => (leaf h ok92)) (fun h => (leaf h ok93)))) (fun h => (node h (fun h => (leaf h ok94)) (fun h => (node h (fun h => (leaf h ok95)) (fun h => (leaf h ok97)))))))))) (fun h => (node h (fun h => (node h (fun h => (node h (fun h => (leaf h ok98)) (fun h => (leaf h ok99)))) (fun h => (node h (fun h => (leaf h ok100)) (fun h => (node h (fun h => (leaf h ok101)) (fun h => (leaf h ok103)))))))) (fun h => (node h (fun h => (node h (fun h => (leaf h ok104)) (fun h => (leaf h ok105)))) (fun h => (node h (fun h => (leaf h ok106)) (fun h => (node h (fun h => (leaf h ok107)) (fun h => (leaf h ok108)))))))))))) (fun h => (node h (fun h => (node h (fun h => (node h (fun h => (node h (fun h => (leaf h ok109)) (fun h => (leaf h ok110)))) (fun h => (node h (fun h => (leaf h ok111)) (fun h => (node h (fun h => (leaf h ok112)) (fun h => (leaf h ok114)))))))) (fun h => (node h (fun h => (node h (fun h => (leaf h ok115)) (fun h => (leaf h ok116)))) (fun h => (node h (fun h => (leaf h ok117)) (fun h => (node h (fun h => (leaf h ok118)) (fun h => (leaf h ok119)))))))))) (fun h => (node h (fun h => (node h (fun h => (node h (fun h => (leaf h ok120)) (fun h => (leaf h ok121)))) (fun h => (node h (fun h => (leaf h ok122)) (fun h => (node h (fun h => (leaf h ok123)) (fun h => (leaf h ok124)))))))) (fun h => (node h (fun h => (node h (fun h => (leaf h ok125)) (fun h => (leaf h ok126)))) (fun h => (node h (fun h => (leaf h ok127)) (fun h => (node h (fun h => (leaf h ok128)) (fun h => (leaf h ok129)))))))))))))) (fun h => (node h (fun h => (node h (fun h => (node h (fun h => (node h (fun h => (node h (fun h => (leaf h ok130)) (fun h => (leaf h ok131)))) (fun h => (node h (fun h => (leaf h ok132)) (fun h => (node h (fun h => (leaf h ok133)) (fun h => (leaf h ok134)))))))) (fun h => (node h (fun h => (node h (fun h => (leaf h ok135)) (fun h => (leaf h ok136)))) (fun h => (node h (fun h => (leaf h ok137)) (fun h => (node h (fun h => (leaf h ok138)) (fun h => (leaf h ok139)))))))))) (fun h => (node h (fun h => (node h (fun h => (node h (fun h => (leaf h ok140)) (fun h => (leaf h ok141)))) (fun h => (node h (fun h => (leaf h ok142)) (fun h => (node h (fun h => (leaf h ok143)) (fun h => (leaf h ok144)))))))) (fun h => (node h (fun h => (node h (fun h => (leaf h ok145)) (fun h => (leaf h ok146)))) (fun h => (node h (fun h => (leaf h ok147)) (fun h => (node h (fun h => (leaf h ok148)) (fun h => (leaf h ok149)))))))))))) (fun h => (node h (fun h => (node h (fun h => (node h (fun h => (node h (fun h => (leaf h ok150)) (fun h => (leaf h ok151)))) (fun h => (node h (fun h => (leaf h ok152)) (fun h => (node h (fun h => (leaf h ok153)) (fun h => (leaf h ok154)))))))) (fun h => (node h (fun h => (node h (fun h => (leaf h ok155)) (fun h => (leaf h ok156)))) (fun h => (node h (fun h => (leaf h ok157)) (fun h => (node h (fun h => (leaf h ok158)) (fun h => (leaf h ok159)))))))))) (fun h => (node h (fun h => (node h (fun h => (node h (fun h => (leaf h ok160)) (fun h => (leaf h ok161)))) (fun h => (node h (fun h => (leaf h ok162)) (fun h => (node h (fun h => (leaf h ok163)) (fun h => (leaf h ok164)))))))) (fun h => (node h (fun h => (node h (fun h => (leaf h ok165)) (fun h => (node h (fun h => (leaf h ok166)) (fun h => (leaf h ok167)))))) (fun h => (node h (fun h => (leaf h ok168)) (fun h => (node h (fun h => (leaf h ok169)) (fun h => (leaf h ok170)))))))))))))))))
def exts : Nat → Bool := fun g => Nat.beq g 0 || Nat.beq g 1 || Nat.beq g 43 || Nat.beq g 62 || Nat.beq g 78 || Nat.beq g 117 || Nat.beq g 118 || Nat.beq g 119 || Nat.beq g 120 || Nat.beq g 121 || Nat.beq g 122 || Nat.beq g 123 || Nat.beq g 124 || Nat.beq g 125 || Nat.beq g 126 || Nat.beq g 127 || Nat.beq g 128 || Nat.beq g 129 || Nat.beq g 130 || Nat.beq g 131 || Nat.beq g 132 || Nat.beq g 133 || Nat.beq g 134 || Nat.beq g 135 || Nat.beq g 136 || Nat.beq g 137 ||  (Nat.ble 139 g)
theorem extsOk : ExtOk Tryz.prog exts := by
  refine extAll (n := 139) (by kernel_rfl) ?_
  intro g h
  have h1 : Nat.ble 139 g = true := by rw [Nat.ble_eq]; exact h
  simp [exts, h1]
end Go.Proofs.YthneejblcffdgaaGreatDoor
