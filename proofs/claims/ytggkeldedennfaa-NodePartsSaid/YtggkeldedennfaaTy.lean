/- What the layer asks of this translation's types: closed facts, written by a program of this session (facts.py). -/
import Derived.Test.YtggkeldedennfaaLm
import Derived.Test.YtggkeldedennfaaProg
set_option linter.unusedVariables false
set_option linter.unusedSimpArgs false
namespace Go.Proofs.Ytggkeldedennfaa
open Go Go.RowKit Go.Lay
attribute [simp] Try.underlying2
@[simp] theorem sz2 : sizeA Try.prog 2 = some 1 := by kernel_rfl
@[simp] theorem ag2 : aggA Try.prog 2 = some false := by kernel_rfl
@[simp] theorem co2 : Try.prog.cellsOf 2 = 1 := by kernel_rfl
@[simp] theorem ze2 : zeroA Try.prog 2 = some (.int .i64 0) := by kernel_rfl
@[simp] theorem by2 : bytesA Try.prog 2 = 8 := by kernel_rfl
attribute [simp] Try.underlying3
@[simp] theorem sz3 : sizeA Try.prog 3 = some 1 := by kernel_rfl
@[simp] theorem ag3 : aggA Try.prog 3 = some false := by kernel_rfl
@[simp] theorem co3 : Try.prog.cellsOf 3 = 1 := by kernel_rfl
@[simp] theorem ze3 : zeroA Try.prog 3 = some (.int .i64 0) := by kernel_rfl
@[simp] theorem by3 : bytesA Try.prog 3 = 8 := by kernel_rfl
attribute [simp] Try.underlying4
@[simp] theorem sz4 : sizeA Try.prog 4 = some 1 := by kernel_rfl
@[simp] theorem ag4 : aggA Try.prog 4 = some false := by kernel_rfl
@[simp] theorem co4 : Try.prog.cellsOf 4 = 1 := by kernel_rfl
@[simp] theorem ze4 : zeroA Try.prog 4 = some (.bool false) := by kernel_rfl
@[simp] theorem by4 : bytesA Try.prog 4 = 1 := by kernel_rfl
attribute [simp] Try.underlying5
@[simp] theorem sz5 : sizeA Try.prog 5 = some 1 := by kernel_rfl
@[simp] theorem ag5 : aggA Try.prog 5 = some false := by kernel_rfl
@[simp] theorem co5 : Try.prog.cellsOf 5 = 1 := by kernel_rfl
@[simp] theorem ze5 : zeroA Try.prog 5 = some (.int .u8 0) := by kernel_rfl
@[simp] theorem by5 : bytesA Try.prog 5 = 1 := by kernel_rfl
attribute [simp] Try.underlying6
@[simp] theorem sz6 : sizeA Try.prog 6 = some 1 := by kernel_rfl
@[simp] theorem ag6 : aggA Try.prog 6 = some false := by kernel_rfl
@[simp] theorem co6 : Try.prog.cellsOf 6 = 1 := by kernel_rfl
@[simp] theorem ze6 : zeroA Try.prog 6 = some (.int .u8 0) := by kernel_rfl
@[simp] theorem by6 : bytesA Try.prog 6 = 1 := by kernel_rfl
attribute [simp] Try.underlying7
@[simp] theorem sz7 : sizeA Try.prog 7 = some 4 := by kernel_rfl
@[simp] theorem ag7 : aggA Try.prog 7 = some true := by kernel_rfl
@[simp] theorem co7 : Try.prog.cellsOf 7 = 4 := by kernel_rfl
@[simp] theorem ze7 : zeroA Try.prog 7 = some (.agg #[(.int .i64 0), (.int .i64 0), (.bool false), (.int .u8 0)]) := by kernel_rfl
@[simp] theorem by7 : bytesA Try.prog 7 = 24 := by kernel_rfl
@[simp] theorem pl7 : placesA Try.prog 7 = some [(0, 1), (1, 1), (2, 1), (3, 1)] := by kernel_rfl
attribute [simp] Try.underlying8
@[simp] theorem sz8 : sizeA Try.prog 8 = some 4 := by kernel_rfl
@[simp] theorem ag8 : aggA Try.prog 8 = some true := by kernel_rfl
@[simp] theorem co8 : Try.prog.cellsOf 8 = 4 := by kernel_rfl
@[simp] theorem ze8 : zeroA Try.prog 8 = some (.agg #[(.int .i64 0), (.int .i64 0), (.bool false), (.int .u8 0)]) := by kernel_rfl
@[simp] theorem by8 : bytesA Try.prog 8 = 24 := by kernel_rfl
@[simp] theorem pl8 : placesA Try.prog 8 = some [(0, 1), (1, 1), (2, 1), (3, 1)] := by kernel_rfl
attribute [simp] Try.underlying9
@[simp] theorem sz9 : sizeA Try.prog 9 = some 1 := by kernel_rfl
@[simp] theorem ag9 : aggA Try.prog 9 = some false := by kernel_rfl
@[simp] theorem co9 : Try.prog.cellsOf 9 = 1 := by kernel_rfl
@[simp] theorem ze9 : zeroA Try.prog 9 = some (.string ⟨#[]⟩) := by kernel_rfl
@[simp] theorem by9 : bytesA Try.prog 9 = 16 := by kernel_rfl
attribute [simp] Try.underlying10
@[simp] theorem sz10 : sizeA Try.prog 10 = some 1 := by kernel_rfl
@[simp] theorem ag10 : aggA Try.prog 10 = some false := by kernel_rfl
@[simp] theorem co10 : Try.prog.cellsOf 10 = 1 := by kernel_rfl
@[simp] theorem ze10 : zeroA Try.prog 10 = some (.string ⟨#[]⟩) := by kernel_rfl
@[simp] theorem by10 : bytesA Try.prog 10 = 16 := by kernel_rfl
attribute [simp] Try.underlying11
@[simp] theorem sz11 : sizeA Try.prog 11 = some 1 := by kernel_rfl
@[simp] theorem ag11 : aggA Try.prog 11 = some false := by kernel_rfl
@[simp] theorem co11 : Try.prog.cellsOf 11 = 1 := by kernel_rfl
@[simp] theorem ze11 : zeroA Try.prog 11 = some (.string ⟨#[]⟩) := by kernel_rfl
@[simp] theorem by11 : bytesA Try.prog 11 = 16 := by kernel_rfl
attribute [simp] Try.underlying12
@[simp] theorem sz12 : sizeA Try.prog 12 = some 1 := by kernel_rfl
@[simp] theorem ag12 : aggA Try.prog 12 = some false := by kernel_rfl
@[simp] theorem co12 : Try.prog.cellsOf 12 = 1 := by kernel_rfl
@[simp] theorem ze12 : zeroA Try.prog 12 = some (.int .u64 0) := by kernel_rfl
@[simp] theorem by12 : bytesA Try.prog 12 = 8 := by kernel_rfl
attribute [simp] Try.underlying13
@[simp] theorem sz13 : sizeA Try.prog 13 = some 2 := by kernel_rfl
@[simp] theorem ag13 : aggA Try.prog 13 = some true := by kernel_rfl
@[simp] theorem co13 : Try.prog.cellsOf 13 = 2 := by kernel_rfl
@[simp] theorem ze13 : zeroA Try.prog 13 = some (.agg #[(.string ⟨#[]⟩), (.int .u64 0)]) := by kernel_rfl
@[simp] theorem by13 : bytesA Try.prog 13 = 24 := by kernel_rfl
@[simp] theorem pl13 : placesA Try.prog 13 = some [(0, 1), (1, 1)] := by kernel_rfl
attribute [simp] Try.underlying14
@[simp] theorem sz14 : sizeA Try.prog 14 = some 2 := by kernel_rfl
@[simp] theorem ag14 : aggA Try.prog 14 = some true := by kernel_rfl
@[simp] theorem co14 : Try.prog.cellsOf 14 = 2 := by kernel_rfl
@[simp] theorem ze14 : zeroA Try.prog 14 = some (.agg #[(.string ⟨#[]⟩), (.int .u64 0)]) := by kernel_rfl
@[simp] theorem by14 : bytesA Try.prog 14 = 24 := by kernel_rfl
@[simp] theorem pl14 : placesA Try.prog 14 = some [(0, 1), (1, 1)] := by kernel_rfl
attribute [simp] Try.underlying15
@[simp] theorem sz15 : sizeA Try.prog 15 = some 1 := by kernel_rfl
@[simp] theorem ag15 : aggA Try.prog 15 = some false := by kernel_rfl
@[simp] theorem co15 : Try.prog.cellsOf 15 = 1 := by kernel_rfl
@[simp] theorem ze15 : zeroA Try.prog 15 = some (.pointer none) := by kernel_rfl
@[simp] theorem by15 : bytesA Try.prog 15 = 8 := by kernel_rfl
attribute [simp] Try.underlying16
@[simp] theorem sz16 : sizeA Try.prog 16 = some 1 := by kernel_rfl
@[simp] theorem ag16 : aggA Try.prog 16 = some false := by kernel_rfl
@[simp] theorem co16 : Try.prog.cellsOf 16 = 1 := by kernel_rfl
@[simp] theorem ze16 : zeroA Try.prog 16 = some (.pointer none) := by kernel_rfl
@[simp] theorem by16 : bytesA Try.prog 16 = 8 := by kernel_rfl
attribute [simp] Try.underlying17
@[simp] theorem sz17 : sizeA Try.prog 17 = some 1 := by kernel_rfl
@[simp] theorem ag17 : aggA Try.prog 17 = some false := by kernel_rfl
@[simp] theorem co17 : Try.prog.cellsOf 17 = 1 := by kernel_rfl
@[simp] theorem ze17 : zeroA Try.prog 17 = some (.pointer none) := by kernel_rfl
@[simp] theorem by17 : bytesA Try.prog 17 = 8 := by kernel_rfl
attribute [simp] Try.underlying18
@[simp] theorem sz18 : sizeA Try.prog 18 = some 1 := by kernel_rfl
@[simp] theorem ag18 : aggA Try.prog 18 = some true := by kernel_rfl
@[simp] theorem co18 : Try.prog.cellsOf 18 = 1 := by kernel_rfl
@[simp] theorem ze18 : zeroA Try.prog 18 = some (.agg #[(.pointer none)]) := by kernel_rfl
@[simp] theorem by18 : bytesA Try.prog 18 = 8 := by kernel_rfl
@[simp] theorem pl18 : placesA Try.prog 18 = some [(0, 1)] := by kernel_rfl
attribute [simp] Try.underlying19
@[simp] theorem sz19 : sizeA Try.prog 19 = some 1 := by kernel_rfl
@[simp] theorem ag19 : aggA Try.prog 19 = some true := by kernel_rfl
@[simp] theorem co19 : Try.prog.cellsOf 19 = 1 := by kernel_rfl
@[simp] theorem ze19 : zeroA Try.prog 19 = some (.agg #[(.pointer none)]) := by kernel_rfl
@[simp] theorem by19 : bytesA Try.prog 19 = 8 := by kernel_rfl
@[simp] theorem pl19 : placesA Try.prog 19 = some [(0, 1)] := by kernel_rfl
attribute [simp] Try.underlying20
@[simp] theorem sz20 : sizeA Try.prog 20 = some 1 := by kernel_rfl
@[simp] theorem ag20 : aggA Try.prog 20 = some false := by kernel_rfl
@[simp] theorem co20 : Try.prog.cellsOf 20 = 1 := by kernel_rfl
@[simp] theorem ze20 : zeroA Try.prog 20 = some .nilIface := by kernel_rfl
@[simp] theorem by20 : bytesA Try.prog 20 = 16 := by kernel_rfl
attribute [simp] Try.underlying21
@[simp] theorem sz21 : sizeA Try.prog 21 = some 1 := by kernel_rfl
@[simp] theorem ag21 : aggA Try.prog 21 = some false := by kernel_rfl
@[simp] theorem co21 : Try.prog.cellsOf 21 = 1 := by kernel_rfl
@[simp] theorem ze21 : zeroA Try.prog 21 = some (.int .i32 0) := by kernel_rfl
@[simp] theorem by21 : bytesA Try.prog 21 = 4 := by kernel_rfl
attribute [simp] Try.underlying22
@[simp] theorem sz22 : sizeA Try.prog 22 = some 1 := by kernel_rfl
@[simp] theorem ag22 : aggA Try.prog 22 = some false := by kernel_rfl
@[simp] theorem co22 : Try.prog.cellsOf 22 = 1 := by kernel_rfl
@[simp] theorem ze22 : zeroA Try.prog 22 = some (.slice none 0 0) := by kernel_rfl
@[simp] theorem by22 : bytesA Try.prog 22 = 24 := by kernel_rfl
attribute [simp] Try.underlying23
@[simp] theorem sz23 : sizeA Try.prog 23 = some 1 := by kernel_rfl
@[simp] theorem ag23 : aggA Try.prog 23 = some false := by kernel_rfl
@[simp] theorem co23 : Try.prog.cellsOf 23 = 1 := by kernel_rfl
@[simp] theorem ze23 : zeroA Try.prog 23 = some (.slice none 0 0) := by kernel_rfl
@[simp] theorem by23 : bytesA Try.prog 23 = 24 := by kernel_rfl
attribute [simp] Try.underlying24
@[simp] theorem sz24 : sizeA Try.prog 24 = some 1 := by kernel_rfl
@[simp] theorem ag24 : aggA Try.prog 24 = some false := by kernel_rfl
@[simp] theorem co24 : Try.prog.cellsOf 24 = 1 := by kernel_rfl
@[simp] theorem ze24 : zeroA Try.prog 24 = some (.slice none 0 0) := by kernel_rfl
@[simp] theorem by24 : bytesA Try.prog 24 = 24 := by kernel_rfl
attribute [simp] Try.underlying25
@[simp] theorem sz25 : sizeA Try.prog 25 = some 3 := by kernel_rfl
@[simp] theorem ag25 : aggA Try.prog 25 = some true := by kernel_rfl
@[simp] theorem co25 : Try.prog.cellsOf 25 = 3 := by kernel_rfl
@[simp] theorem ze25 : zeroA Try.prog 25 = some (.agg #[(.slice none 0 0), (.slice none 0 0), (.slice none 0 0)]) := by kernel_rfl
@[simp] theorem by25 : bytesA Try.prog 25 = 72 := by kernel_rfl
@[simp] theorem pl25 : placesA Try.prog 25 = some [(0, 1), (1, 1), (2, 1)] := by kernel_rfl
attribute [simp] Try.underlying26
@[simp] theorem sz26 : sizeA Try.prog 26 = some 3 := by kernel_rfl
@[simp] theorem ag26 : aggA Try.prog 26 = some true := by kernel_rfl
@[simp] theorem co26 : Try.prog.cellsOf 26 = 3 := by kernel_rfl
@[simp] theorem ze26 : zeroA Try.prog 26 = some (.agg #[(.slice none 0 0), (.slice none 0 0), (.slice none 0 0)]) := by kernel_rfl
@[simp] theorem by26 : bytesA Try.prog 26 = 72 := by kernel_rfl
@[simp] theorem pl26 : placesA Try.prog 26 = some [(0, 1), (1, 1), (2, 1)] := by kernel_rfl
attribute [simp] Try.underlying27
@[simp] theorem sz27 : sizeA Try.prog 27 = some 1 := by kernel_rfl
@[simp] theorem ag27 : aggA Try.prog 27 = some false := by kernel_rfl
@[simp] theorem co27 : Try.prog.cellsOf 27 = 1 := by kernel_rfl
@[simp] theorem ze27 : zeroA Try.prog 27 = some (.pointer none) := by kernel_rfl
@[simp] theorem by27 : bytesA Try.prog 27 = 8 := by kernel_rfl
attribute [simp] Try.underlying28
@[simp] theorem sz28 : sizeA Try.prog 28 = some 1 := by kernel_rfl
@[simp] theorem ag28 : aggA Try.prog 28 = some false := by kernel_rfl
@[simp] theorem co28 : Try.prog.cellsOf 28 = 1 := by kernel_rfl
@[simp] theorem ze28 : zeroA Try.prog 28 = some (.slice none 0 0) := by kernel_rfl
@[simp] theorem by28 : bytesA Try.prog 28 = 24 := by kernel_rfl
attribute [simp] Try.underlying30
@[simp] theorem sz30 : sizeA Try.prog 30 = some 2 := by kernel_rfl
@[simp] theorem ag30 : aggA Try.prog 30 = some true := by kernel_rfl
@[simp] theorem co30 : Try.prog.cellsOf 30 = 2 := by kernel_rfl
@[simp] theorem ze30 : zeroA Try.prog 30 = some (.agg #[(.slice none 0 0), (.int .i64 0)]) := by kernel_rfl
@[simp] theorem by30 : bytesA Try.prog 30 = 32 := by kernel_rfl
@[simp] theorem pl30 : placesA Try.prog 30 = some [(0, 1), (1, 1)] := by kernel_rfl
attribute [simp] Try.underlying31
@[simp] theorem sz31 : sizeA Try.prog 31 = some 2 := by kernel_rfl
@[simp] theorem ag31 : aggA Try.prog 31 = some true := by kernel_rfl
@[simp] theorem co31 : Try.prog.cellsOf 31 = 2 := by kernel_rfl
@[simp] theorem ze31 : zeroA Try.prog 31 = some (.agg #[(.slice none 0 0), (.int .i64 0)]) := by kernel_rfl
@[simp] theorem by31 : bytesA Try.prog 31 = 32 := by kernel_rfl
@[simp] theorem pl31 : placesA Try.prog 31 = some [(0, 1), (1, 1)] := by kernel_rfl
attribute [simp] Try.underlying34
@[simp] theorem sz34 : sizeA Try.prog 34 = some 1 := by kernel_rfl
@[simp] theorem ag34 : aggA Try.prog 34 = some false := by kernel_rfl
@[simp] theorem co34 : Try.prog.cellsOf 34 = 1 := by kernel_rfl
@[simp] theorem ze34 : zeroA Try.prog 34 = some (.int .u32 0) := by kernel_rfl
@[simp] theorem by34 : bytesA Try.prog 34 = 4 := by kernel_rfl
attribute [simp] Try.underlying35
@[simp] theorem sz35 : sizeA Try.prog 35 = some 6 := by kernel_rfl
@[simp] theorem ag35 : aggA Try.prog 35 = some true := by kernel_rfl
@[simp] theorem co35 : Try.prog.cellsOf 35 = 6 := by kernel_rfl
@[simp] theorem ze35 : zeroA Try.prog 35 = some (.agg #[(.int .i64 0), (.int .i64 0), (.bool false), (.int .i64 0), (.int .u32 0), (.int .i64 0)]) := by kernel_rfl
@[simp] theorem by35 : bytesA Try.prog 35 = 48 := by kernel_rfl
@[simp] theorem pl35 : placesA Try.prog 35 = some [(0, 1), (1, 1), (2, 1), (3, 1), (4, 1), (5, 1)] := by kernel_rfl
attribute [simp] Try.underlying36
@[simp] theorem sz36 : sizeA Try.prog 36 = some 6 := by kernel_rfl
@[simp] theorem ag36 : aggA Try.prog 36 = some true := by kernel_rfl
@[simp] theorem co36 : Try.prog.cellsOf 36 = 6 := by kernel_rfl
@[simp] theorem ze36 : zeroA Try.prog 36 = some (.agg #[(.int .i64 0), (.int .i64 0), (.bool false), (.int .i64 0), (.int .u32 0), (.int .i64 0)]) := by kernel_rfl
@[simp] theorem by36 : bytesA Try.prog 36 = 48 := by kernel_rfl
@[simp] theorem pl36 : placesA Try.prog 36 = some [(0, 1), (1, 1), (2, 1), (3, 1), (4, 1), (5, 1)] := by kernel_rfl
attribute [simp] Try.underlying38
@[simp] theorem sz38 : sizeA Try.prog 38 = some 1 := by kernel_rfl
@[simp] theorem ag38 : aggA Try.prog 38 = some false := by kernel_rfl
@[simp] theorem co38 : Try.prog.cellsOf 38 = 1 := by kernel_rfl
@[simp] theorem ze38 : zeroA Try.prog 38 = some (.slice none 0 0) := by kernel_rfl
@[simp] theorem by38 : bytesA Try.prog 38 = 24 := by kernel_rfl
attribute [simp] Try.underlying40
@[simp] theorem sz40 : sizeA Try.prog 40 = some 1 := by kernel_rfl
@[simp] theorem ag40 : aggA Try.prog 40 = some false := by kernel_rfl
@[simp] theorem co40 : Try.prog.cellsOf 40 = 1 := by kernel_rfl
@[simp] theorem ze40 : zeroA Try.prog 40 = some (.slice none 0 0) := by kernel_rfl
@[simp] theorem by40 : bytesA Try.prog 40 = 24 := by kernel_rfl
attribute [simp] Try.underlying49
@[simp] theorem sz49 : sizeA Try.prog 49 = some 1 := by kernel_rfl
@[simp] theorem ag49 : aggA Try.prog 49 = some false := by kernel_rfl
@[simp] theorem co49 : Try.prog.cellsOf 49 = 1 := by kernel_rfl
@[simp] theorem ze49 : zeroA Try.prog 49 = some (.slice none 0 0) := by kernel_rfl
@[simp] theorem by49 : bytesA Try.prog 49 = 24 := by kernel_rfl
attribute [simp] Try.underlying52
@[simp] theorem sz52 : sizeA Try.prog 52 = some 1 := by kernel_rfl
@[simp] theorem ag52 : aggA Try.prog 52 = some false := by kernel_rfl
@[simp] theorem co52 : Try.prog.cellsOf 52 = 1 := by kernel_rfl
@[simp] theorem ze52 : zeroA Try.prog 52 = some (.slice none 0 0) := by kernel_rfl
@[simp] theorem by52 : bytesA Try.prog 52 = 24 := by kernel_rfl
attribute [simp] Try.underlying54
@[simp] theorem sz54 : sizeA Try.prog 54 = some 3 := by kernel_rfl
@[simp] theorem ag54 : aggA Try.prog 54 = some true := by kernel_rfl
@[simp] theorem co54 : Try.prog.cellsOf 54 = 3 := by kernel_rfl
@[simp] theorem ze54 : zeroA Try.prog 54 = some (.agg #[(.int .i64 0), (.int .i64 0), (.int .i64 0)]) := by kernel_rfl
@[simp] theorem by54 : bytesA Try.prog 54 = 24 := by kernel_rfl
@[simp] theorem pl54 : placesA Try.prog 54 = some [(0, 1), (1, 1), (2, 1)] := by kernel_rfl
attribute [simp] Try.underlying55
@[simp] theorem sz55 : sizeA Try.prog 55 = some 3 := by kernel_rfl
@[simp] theorem ag55 : aggA Try.prog 55 = some true := by kernel_rfl
@[simp] theorem co55 : Try.prog.cellsOf 55 = 3 := by kernel_rfl
@[simp] theorem ze55 : zeroA Try.prog 55 = some (.agg #[(.int .i64 0), (.int .i64 0), (.int .i64 0)]) := by kernel_rfl
@[simp] theorem by55 : bytesA Try.prog 55 = 24 := by kernel_rfl
@[simp] theorem pl55 : placesA Try.prog 55 = some [(0, 1), (1, 1), (2, 1)] := by kernel_rfl
attribute [simp] Try.underlying56
@[simp] theorem sz56 : sizeA Try.prog 56 = some 1 := by kernel_rfl
@[simp] theorem ag56 : aggA Try.prog 56 = some false := by kernel_rfl
@[simp] theorem co56 : Try.prog.cellsOf 56 = 1 := by kernel_rfl
@[simp] theorem ze56 : zeroA Try.prog 56 = some (.int .i64 0) := by kernel_rfl
@[simp] theorem by56 : bytesA Try.prog 56 = 8 := by kernel_rfl
attribute [simp] Try.underlying65
@[simp] theorem sz65 : sizeA Try.prog 65 = some 1 := by kernel_rfl
@[simp] theorem ag65 : aggA Try.prog 65 = some false := by kernel_rfl
@[simp] theorem co65 : Try.prog.cellsOf 65 = 1 := by kernel_rfl
@[simp] theorem ze65 : zeroA Try.prog 65 = some (.slice none 0 0) := by kernel_rfl
@[simp] theorem by65 : bytesA Try.prog 65 = 24 := by kernel_rfl
attribute [simp] Try.underlying66
@[simp] theorem sz66 : sizeA Try.prog 66 = some 5 := by kernel_rfl
@[simp] theorem ag66 : aggA Try.prog 66 = some true := by kernel_rfl
@[simp] theorem co66 : Try.prog.cellsOf 66 = 5 := by kernel_rfl
@[simp] theorem ze66 : zeroA Try.prog 66 = some (.agg #[(.int .i64 0), (.int .i64 0), (.int .i64 0), (.int .i64 0), (.int .i64 0)]) := by kernel_rfl
@[simp] theorem by66 : bytesA Try.prog 66 = 40 := by kernel_rfl
attribute [simp] Try.underlying67
@[simp] theorem sz67 : sizeA Try.prog 67 = some 11 := by kernel_rfl
@[simp] theorem ag67 : aggA Try.prog 67 = some true := by kernel_rfl
@[simp] theorem co67 : Try.prog.cellsOf 67 = 11 := by kernel_rfl
@[simp] theorem ze67 : zeroA Try.prog 67 = some (.agg #[(.string ⟨#[]⟩), (.int .i64 0), (.int .i64 0), (.bool false), (.bool false), (.slice none 0 0), (.int .i64 0), (.int .i64 0), (.int .i64 0), (.int .i64 0), (.int .i64 0)]) := by kernel_rfl
@[simp] theorem by67 : bytesA Try.prog 67 = 104 := by kernel_rfl
@[simp] theorem pl67 : placesA Try.prog 67 = some [(0, 1), (1, 1), (2, 1), (3, 1), (4, 1), (5, 1), (6, 5)] := by kernel_rfl
attribute [simp] Try.underlying68
@[simp] theorem sz68 : sizeA Try.prog 68 = some 11 := by kernel_rfl
@[simp] theorem ag68 : aggA Try.prog 68 = some true := by kernel_rfl
@[simp] theorem co68 : Try.prog.cellsOf 68 = 11 := by kernel_rfl
@[simp] theorem ze68 : zeroA Try.prog 68 = some (.agg #[(.string ⟨#[]⟩), (.int .i64 0), (.int .i64 0), (.bool false), (.bool false), (.slice none 0 0), (.int .i64 0), (.int .i64 0), (.int .i64 0), (.int .i64 0), (.int .i64 0)]) := by kernel_rfl
@[simp] theorem by68 : bytesA Try.prog 68 = 104 := by kernel_rfl
@[simp] theorem pl68 : placesA Try.prog 68 = some [(0, 1), (1, 1), (2, 1), (3, 1), (4, 1), (5, 1), (6, 5)] := by kernel_rfl
attribute [simp] Try.underlying69
@[simp] theorem sz69 : sizeA Try.prog 69 = some 2 := by kernel_rfl
@[simp] theorem ag69 : aggA Try.prog 69 = some true := by kernel_rfl
@[simp] theorem co69 : Try.prog.cellsOf 69 = 2 := by kernel_rfl
@[simp] theorem ze69 : zeroA Try.prog 69 = some (.agg #[(.int .i64 0), (.int .i64 0)]) := by kernel_rfl
@[simp] theorem by69 : bytesA Try.prog 69 = 16 := by kernel_rfl
@[simp] theorem pl69 : placesA Try.prog 69 = some [(0, 1), (1, 1)] := by kernel_rfl
attribute [simp] Try.underlying70
@[simp] theorem sz70 : sizeA Try.prog 70 = some 2 := by kernel_rfl
@[simp] theorem ag70 : aggA Try.prog 70 = some true := by kernel_rfl
@[simp] theorem co70 : Try.prog.cellsOf 70 = 2 := by kernel_rfl
@[simp] theorem ze70 : zeroA Try.prog 70 = some (.agg #[(.int .i64 0), (.int .i64 0)]) := by kernel_rfl
@[simp] theorem by70 : bytesA Try.prog 70 = 16 := by kernel_rfl
@[simp] theorem pl70 : placesA Try.prog 70 = some [(0, 1), (1, 1)] := by kernel_rfl
attribute [simp] Try.underlying71
@[simp] theorem sz71 : sizeA Try.prog 71 = some 1 := by kernel_rfl
@[simp] theorem ag71 : aggA Try.prog 71 = some false := by kernel_rfl
@[simp] theorem co71 : Try.prog.cellsOf 71 = 1 := by kernel_rfl
@[simp] theorem ze71 : zeroA Try.prog 71 = some (.slice none 0 0) := by kernel_rfl
@[simp] theorem by71 : bytesA Try.prog 71 = 24 := by kernel_rfl
attribute [simp] Try.underlying84
@[simp] theorem sz84 : sizeA Try.prog 84 = some 1 := by kernel_rfl
@[simp] theorem ag84 : aggA Try.prog 84 = some false := by kernel_rfl
@[simp] theorem co84 : Try.prog.cellsOf 84 = 1 := by kernel_rfl
@[simp] theorem ze84 : zeroA Try.prog 84 = some (.slice none 0 0) := by kernel_rfl
@[simp] theorem by84 : bytesA Try.prog 84 = 24 := by kernel_rfl
attribute [simp] Try.underlying88
@[simp] theorem sz88 : sizeA Try.prog 88 = some 1 := by kernel_rfl
@[simp] theorem ag88 : aggA Try.prog 88 = some false := by kernel_rfl
@[simp] theorem co88 : Try.prog.cellsOf 88 = 1 := by kernel_rfl
@[simp] theorem ze88 : zeroA Try.prog 88 = some (.slice none 0 0) := by kernel_rfl
@[simp] theorem by88 : bytesA Try.prog 88 = 24 := by kernel_rfl
attribute [simp] Try.underlying94
@[simp] theorem sz94 : sizeA Try.prog 94 = some 6 := by kernel_rfl
@[simp] theorem ag94 : aggA Try.prog 94 = some true := by kernel_rfl
@[simp] theorem co94 : Try.prog.cellsOf 94 = 6 := by kernel_rfl
@[simp] theorem ze94 : zeroA Try.prog 94 = some (.agg #[(.int .i64 0), (.int .i64 0), (.int .i64 0), (.int .i64 0), (.int .i64 0), (.int .i64 0)]) := by kernel_rfl
@[simp] theorem by94 : bytesA Try.prog 94 = 48 := by kernel_rfl
@[simp] theorem pl94 : placesA Try.prog 94 = some [(0, 3), (3, 1), (4, 1), (5, 1)] := by kernel_rfl
attribute [simp] Try.underlying95
@[simp] theorem sz95 : sizeA Try.prog 95 = some 6 := by kernel_rfl
@[simp] theorem ag95 : aggA Try.prog 95 = some true := by kernel_rfl
@[simp] theorem co95 : Try.prog.cellsOf 95 = 6 := by kernel_rfl
@[simp] theorem ze95 : zeroA Try.prog 95 = some (.agg #[(.int .i64 0), (.int .i64 0), (.int .i64 0), (.int .i64 0), (.int .i64 0), (.int .i64 0)]) := by kernel_rfl
@[simp] theorem by95 : bytesA Try.prog 95 = 48 := by kernel_rfl
@[simp] theorem pl95 : placesA Try.prog 95 = some [(0, 3), (3, 1), (4, 1), (5, 1)] := by kernel_rfl
attribute [simp] Try.underlying96
@[simp] theorem sz96 : sizeA Try.prog 96 = some 1 := by kernel_rfl
@[simp] theorem ag96 : aggA Try.prog 96 = some false := by kernel_rfl
@[simp] theorem co96 : Try.prog.cellsOf 96 = 1 := by kernel_rfl
@[simp] theorem ze96 : zeroA Try.prog 96 = some (.slice none 0 0) := by kernel_rfl
@[simp] theorem by96 : bytesA Try.prog 96 = 24 := by kernel_rfl
attribute [simp] Try.underlying97
@[simp] theorem sz97 : sizeA Try.prog 97 = some 1 := by kernel_rfl
@[simp] theorem ag97 : aggA Try.prog 97 = some false := by kernel_rfl
@[simp] theorem co97 : Try.prog.cellsOf 97 = 1 := by kernel_rfl
@[simp] theorem ze97 : zeroA Try.prog 97 = some (.pointer none) := by kernel_rfl
@[simp] theorem by97 : bytesA Try.prog 97 = 8 := by kernel_rfl
attribute [simp] Try.underlying101
@[simp] theorem sz101 : sizeA Try.prog 101 = some 2 := by kernel_rfl
@[simp] theorem ag101 : aggA Try.prog 101 = some true := by kernel_rfl
@[simp] theorem co101 : Try.prog.cellsOf 101 = 2 := by kernel_rfl
@[simp] theorem ze101 : zeroA Try.prog 101 = some (.agg #[(.int .i64 0), (.int .i64 0)]) := by kernel_rfl
@[simp] theorem by101 : bytesA Try.prog 101 = 16 := by kernel_rfl
@[simp] theorem pl101 : placesA Try.prog 101 = some [(0, 1), (1, 1)] := by kernel_rfl
attribute [simp] Try.underlying102
@[simp] theorem sz102 : sizeA Try.prog 102 = some 2 := by kernel_rfl
@[simp] theorem ag102 : aggA Try.prog 102 = some true := by kernel_rfl
@[simp] theorem co102 : Try.prog.cellsOf 102 = 2 := by kernel_rfl
@[simp] theorem ze102 : zeroA Try.prog 102 = some (.agg #[(.int .i64 0), (.int .i64 0)]) := by kernel_rfl
@[simp] theorem by102 : bytesA Try.prog 102 = 16 := by kernel_rfl
@[simp] theorem pl102 : placesA Try.prog 102 = some [(0, 1), (1, 1)] := by kernel_rfl
attribute [simp] Try.underlying112
@[simp] theorem sz112 : sizeA Try.prog 112 = some 4 := by kernel_rfl
@[simp] theorem ag112 : aggA Try.prog 112 = some true := by kernel_rfl
@[simp] theorem co112 : Try.prog.cellsOf 112 = 4 := by kernel_rfl
@[simp] theorem ze112 : zeroA Try.prog 112 = some (.agg #[(.pointer none), (.pointer none), (.pointer none), (.string ⟨#[]⟩)]) := by kernel_rfl
@[simp] theorem by112 : bytesA Try.prog 112 = 40 := by kernel_rfl
@[simp] theorem pl112 : placesA Try.prog 112 = some [(0, 1), (1, 1), (2, 1), (3, 1)] := by kernel_rfl
attribute [simp] Try.underlying113
@[simp] theorem sz113 : sizeA Try.prog 113 = some 4 := by kernel_rfl
@[simp] theorem ag113 : aggA Try.prog 113 = some true := by kernel_rfl
@[simp] theorem co113 : Try.prog.cellsOf 113 = 4 := by kernel_rfl
@[simp] theorem ze113 : zeroA Try.prog 113 = some (.agg #[(.pointer none), (.pointer none), (.pointer none), (.string ⟨#[]⟩)]) := by kernel_rfl
@[simp] theorem by113 : bytesA Try.prog 113 = 40 := by kernel_rfl
@[simp] theorem pl113 : placesA Try.prog 113 = some [(0, 1), (1, 1), (2, 1), (3, 1)] := by kernel_rfl
attribute [simp] Try.underlying114
@[simp] theorem sz114 : sizeA Try.prog 114 = some 0 := by kernel_rfl
@[simp] theorem ag114 : aggA Try.prog 114 = some true := by kernel_rfl
@[simp] theorem co114 : Try.prog.cellsOf 114 = 0 := by kernel_rfl
@[simp] theorem ze114 : zeroA Try.prog 114 = some (.agg #[]) := by kernel_rfl
@[simp] theorem by114 : bytesA Try.prog 114 = 0 := by kernel_rfl
attribute [simp] Try.underlying115
@[simp] theorem sz115 : sizeA Try.prog 115 = some 0 := by kernel_rfl
@[simp] theorem ag115 : aggA Try.prog 115 = some true := by kernel_rfl
@[simp] theorem co115 : Try.prog.cellsOf 115 = 0 := by kernel_rfl
@[simp] theorem ze115 : zeroA Try.prog 115 = some (.agg #[]) := by kernel_rfl
@[simp] theorem by115 : bytesA Try.prog 115 = 0 := by kernel_rfl
@[simp] theorem pl115 : placesA Try.prog 115 = some [(0, 0)] := by kernel_rfl
attribute [simp] Try.underlying116
@[simp] theorem sz116 : sizeA Try.prog 116 = some 0 := by kernel_rfl
@[simp] theorem ag116 : aggA Try.prog 116 = some true := by kernel_rfl
@[simp] theorem co116 : Try.prog.cellsOf 116 = 0 := by kernel_rfl
@[simp] theorem ze116 : zeroA Try.prog 116 = some (.agg #[]) := by kernel_rfl
@[simp] theorem by116 : bytesA Try.prog 116 = 0 := by kernel_rfl
@[simp] theorem pl116 : placesA Try.prog 116 = some [(0, 0)] := by kernel_rfl
attribute [simp] Try.underlying118
@[simp] theorem sz118 : sizeA Try.prog 118 = some 1 := by kernel_rfl
@[simp] theorem ag118 : aggA Try.prog 118 = some false := by kernel_rfl
@[simp] theorem co118 : Try.prog.cellsOf 118 = 1 := by kernel_rfl
@[simp] theorem ze118 : zeroA Try.prog 118 = some (.int .u8 0) := by kernel_rfl
@[simp] theorem by118 : bytesA Try.prog 118 = 1 := by kernel_rfl
attribute [simp] Try.underlying119
@[simp] theorem sz119 : sizeA Try.prog 119 = some 1 := by kernel_rfl
@[simp] theorem ag119 : aggA Try.prog 119 = some false := by kernel_rfl
@[simp] theorem co119 : Try.prog.cellsOf 119 = 1 := by kernel_rfl
@[simp] theorem ze119 : zeroA Try.prog 119 = some (.int .u8 0) := by kernel_rfl
@[simp] theorem by119 : bytesA Try.prog 119 = 1 := by kernel_rfl
attribute [simp] Try.underlying121
@[simp] theorem sz121 : sizeA Try.prog 121 = some 1 := by kernel_rfl
@[simp] theorem ag121 : aggA Try.prog 121 = some false := by kernel_rfl
@[simp] theorem co121 : Try.prog.cellsOf 121 = 1 := by kernel_rfl
@[simp] theorem ze121 : zeroA Try.prog 121 = some (.pointer none) := by kernel_rfl
@[simp] theorem by121 : bytesA Try.prog 121 = 8 := by kernel_rfl
attribute [simp] Try.underlying122
@[simp] theorem sz122 : sizeA Try.prog 122 = some 1 := by kernel_rfl
@[simp] theorem ag122 : aggA Try.prog 122 = some false := by kernel_rfl
@[simp] theorem co122 : Try.prog.cellsOf 122 = 1 := by kernel_rfl
@[simp] theorem ze122 : zeroA Try.prog 122 = some (.int .i32 0) := by kernel_rfl
@[simp] theorem by122 : bytesA Try.prog 122 = 4 := by kernel_rfl
attribute [simp] Try.underlying123
@[simp] theorem sz123 : sizeA Try.prog 123 = some 1 := by kernel_rfl
@[simp] theorem ag123 : aggA Try.prog 123 = some false := by kernel_rfl
@[simp] theorem co123 : Try.prog.cellsOf 123 = 1 := by kernel_rfl
@[simp] theorem ze123 : zeroA Try.prog 123 = some (.int .i32 0) := by kernel_rfl
@[simp] theorem by123 : bytesA Try.prog 123 = 4 := by kernel_rfl
attribute [simp] Try.underlying124
@[simp] theorem sz124 : sizeA Try.prog 124 = some 11 := by kernel_rfl
@[simp] theorem ag124 : aggA Try.prog 124 = some true := by kernel_rfl
@[simp] theorem co124 : Try.prog.cellsOf 124 = 11 := by kernel_rfl
@[simp] theorem ze124 : zeroA Try.prog 124 = some (.agg #[(.int .u64 0), (.int .u64 0), (.int .u32 0), (.int .u8 0), (.int .u8 0), (.int .u8 0), (.int .u8 0), .nilFunc, (.pointer none), (.int .i32 0), (.int .i32 0)]) := by kernel_rfl
@[simp] theorem by124 : bytesA Try.prog 124 = 48 := by kernel_rfl
@[simp] theorem pl124 : placesA Try.prog 124 = some [(0, 1), (1, 1), (2, 1), (3, 1), (4, 1), (5, 1), (6, 1), (7, 1), (8, 1), (9, 1), (10, 1)] := by kernel_rfl
attribute [simp] Try.underlying125
@[simp] theorem sz125 : sizeA Try.prog 125 = some 11 := by kernel_rfl
@[simp] theorem ag125 : aggA Try.prog 125 = some true := by kernel_rfl
@[simp] theorem co125 : Try.prog.cellsOf 125 = 11 := by kernel_rfl
@[simp] theorem ze125 : zeroA Try.prog 125 = some (.agg #[(.int .u64 0), (.int .u64 0), (.int .u32 0), (.int .u8 0), (.int .u8 0), (.int .u8 0), (.int .u8 0), .nilFunc, (.pointer none), (.int .i32 0), (.int .i32 0)]) := by kernel_rfl
@[simp] theorem by125 : bytesA Try.prog 125 = 48 := by kernel_rfl
@[simp] theorem pl125 : placesA Try.prog 125 = some [(0, 1), (1, 1), (2, 1), (3, 1), (4, 1), (5, 1), (6, 1), (7, 1), (8, 1), (9, 1), (10, 1)] := by kernel_rfl
@[simp] theorem pe36 : plainEq Try.prog 36 = true := by kernel_rfl
@[simp] theorem pe55 : plainEq Try.prog 55 = true := by kernel_rfl
@[simp] theorem pe70 : plainEq Try.prog 70 = true := by kernel_rfl
@[simp] theorem pe102 : plainEq Try.prog 102 = true := by kernel_rfl
theorem el22 : ElT Try.prog 22 68 11 104 := ⟨Try.underlying22, sz68, ⟨_, ze68, rfl, rfl, rfl⟩, by68, by decide, by decide⟩
theorem el23 : ElT Try.prog 23 36 6 48 := ⟨Try.underlying23, sz36, ⟨_, ze36, rfl, rfl, rfl⟩, by36, by decide, by decide⟩
theorem el24 : ElT Try.prog 24 49 1 24 := ⟨Try.underlying24, sz49, ⟨_, ze49, rfl, rfl, rfl⟩, by49, by decide, by decide⟩
theorem el28 : ElT Try.prog 28 3 1 8 := ⟨Try.underlying28, sz3, ⟨_, ze3, rfl, rfl, rfl⟩, by3, by decide, by decide⟩
theorem el38 : ElT Try.prog 38 40 1 24 := ⟨Try.underlying38, sz40, ⟨_, ze40, rfl, rfl, rfl⟩, by40, by decide, by decide⟩
theorem el40 : ElT Try.prog 40 4 1 1 := ⟨Try.underlying40, sz4, ⟨_, ze4, rfl, rfl, rfl⟩, by4, by decide, by decide⟩
theorem el49 : ElT Try.prog 49 55 3 24 := ⟨Try.underlying49, sz55, ⟨_, ze55, rfl, rfl, rfl⟩, by55, by decide, by decide⟩
theorem el52 : ElT Try.prog 52 2 1 8 := ⟨Try.underlying52, sz2, ⟨_, ze2, rfl, rfl, rfl⟩, by2, by decide, by decide⟩
theorem el65 : ElT Try.prog 65 70 2 16 := ⟨Try.underlying65, sz70, ⟨_, ze70, rfl, rfl, rfl⟩, by70, by decide, by decide⟩
theorem el71 : ElT Try.prog 71 34 1 4 := ⟨Try.underlying71, sz34, ⟨_, ze34, rfl, rfl, rfl⟩, by34, by decide, by decide⟩
theorem el84 : ElT Try.prog 84 102 2 16 := ⟨Try.underlying84, sz102, ⟨_, ze102, rfl, rfl, rfl⟩, by102, by decide, by decide⟩
theorem el88 : ElT Try.prog 88 84 1 24 := ⟨Try.underlying88, sz84, ⟨_, ze84, rfl, rfl, rfl⟩, by84, by decide, by decide⟩
theorem el96 : ElT Try.prog 96 95 6 48 := ⟨Try.underlying96, sz95, ⟨_, ze95, rfl, rfl, rfl⟩, by95, by decide, by decide⟩
theorem mixd : Try.prog.follows .mixedOrders = true := by kernel_rfl
end Go.Proofs.Ytggkeldedennfaa
