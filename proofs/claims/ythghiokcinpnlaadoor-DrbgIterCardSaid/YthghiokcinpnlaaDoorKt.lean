import Derived.Test.YthghiokcinpnlaaDoorTabD
import Derived.Test.YthghiokcinpnlaaDoorEvCard
import Derived.Test.YthghiokcinpnlaaDoorRows
import Derived.Test.YthghiokcinpnlaaDoorTie
import Derived.Test.YthghiokcinpnlaaDoorCards
import Derived.SevenTiedAt
namespace Go.Proofs.YthghiokcinpnlaaDoor
open Go Go.Ev Go.ChangeShapes Go.WideShapes Go.ChangeAt Go.RowKit
set_option linter.unusedVariables false

theorem Tryd.own : ownKnob Tryd.prog.godebug = none := by kernel_rfl
theorem Tryd.laidOut' : laidOutB Tryd.prog = true := by kernel_rfl
theorem Tryd.gK : Tryd.prog.globalNamed "bailey/hashes.k" = some 3 := by kernel_rfl
theorem Tryd.gKType : (Tryd.prog.globals[3]?).map (·.type) = some 113 := by kernel_rfl
theorem Tryd.cellsU64 : Tryd.prog.cellsOf 39 = 1 := by kernel_rfl
theorem Tryd.cellsU8 : Tryd.prog.cellsOf 5 = 1 := by kernel_rfl

def ktab : List Int := [4794697086780616226, 8158064640168781261, 13096744586834688815, 16840607885511220156, 4131703408338449720, 6480981068601479193, 10538285296894168987, 12329834152419229976, 15566598209576043074, 1334009975649890238, 2608012711638119052, 6128411473006802146, 8268148722764581231, 9286055187155687089, 11230858885718282805, 13951009754708518548, 16472876342353939154, 17275323862435702243, 1135362057144423861, 2597628984639134821, 3308224258029322869, 5365058923640841347, 6679025012923562964, 8573033837759648693, 10970295158949994411, 12119686244451234320, 12683024718118986047, 13788192230050041572, 14330467153632333762, 15395433587784984357, 489312712824947311, 1452737877330783856, 2861767655752347644, 3322285676063803686, 5560940570517711597, 5996557281743188959, 7280758554555802590, 8532644243296465576, 9350256976987008742, 10552545826968843579, 11727347734174303076, 12113106623233404929, 14000437183269869457, 14369950271660146224, 15101387698204529176, 15463397548674623760, 17586052441742319658, 1182934255886127544, 1847814050463011016, 2177327727835720531, 2830643537854262169, 3796741975233480872, 4115178125766777443, 5681478168544905931, 6601373596472566643, 7507060721942968483, 8399075790359081724, 8693463985226723168, 9568029438360202098, 10144078919501101548, 10430055236837252648, 11840083180663258601, 13761210420658862357, 14299343276471374635, 14566680578165727644, 15097957966210449927, 16922976911328602910, 17689382322260857208, 500013540394364858, 748580250866718886, 1242879168328830382, 1977374033974150939, 2944078676154940804, 3659926193048069267, 4368137639120453308, 4836135668995329356, 5532061633213252278, 6448918945643986474, 6902733635092675308, 7801388544844847127]
theorem laid_k_eq {H : Type} : (Rows.laid_bailey_hashes_k : DataW H) = .agg (ktab.map fun x => .lit (.int .u64 x)) := rfl
theorem row_of_laid {W : World} (h : laidMet Tryd.prog [("bailey/hashes.k", Rows.laid_bailey_hashes_k)] W) : Row W (some ⟨3, 0, none⟩) .u64 ktab := by
  obtain ⟨ps, ⟨g, t, cs, fuel, p, q, hg, ht, hvar, hd, _, _⟩, _⟩ := h
  obtain rfl := Option.some.inj (Tryd.gK.symm.trans hg)
  obtain rfl := Option.some.inj (Tryd.gKType.symm.trans ht)
  rw [laid_k_eq] at hd
  have hcs := cells_of_ints (n := 80) (by kernel_rfl) Tryd.underlying39 Tryd.cellsU64 (by kernel_rfl) hd
  intro i hi
  refine ⟨3, 0, rfl, ?_⟩
  have h1 := World.var?_cell hg hvar i
  rw [Nat.zero_add]
  rw [h1, ← Array.getElem?_toList, hcs, List.getElem?_map, List.getElem?_eq_getElem hi]; rfl
/-- a world in which the table reads as listed. -/
noncomputable def laidWorld (os : Os) : World :=
  let w0 := World.holding Tryd.prog os ⟨#[], #[], []⟩
  { w0 with heap := w0.heap.modify 3 fun
      | .cells _ t frozen => .cells (ktab.map (Value.int .u64)).toArray t frozen
      | o => o }
theorem laidWorld_met (os : Os) (args : Array Value) : laidMet Tryd.prog [("bailey/hashes.k", Rows.laid_bailey_hashes_k)] ((laidWorld os).forCall (fun _ _ => 0) ⟨#[], args, []⟩).memory :=
  laidMet_of_run (ps := (List.range 80).map fun i => .cell 3 i) 8 (by kernel_rfl) (by kernel_rfl) (by kernel_rfl)
end Go.Proofs.YthghiokcinpnlaaDoor
