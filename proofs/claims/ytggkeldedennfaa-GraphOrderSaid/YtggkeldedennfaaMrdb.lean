/- Parts of this proof, joined: Ty, Np, Nq, Ca, Na, Nb, Nc, Nd, Ne, Nf, Ng, Nh, Ni, Nj, Nk, Nl. -/
import Derived.Test.YtggkeldedennfaaProg
import Derived.Test.YtggkeldedennfaaMrda

set_option linter.unusedVariables false
set_option linter.unusedSimpArgs false
namespace Go.Proofs.Ytggkeldedennfaa
open Go Go.RowKit Go.Lay
attribute [simp] Try.underlying2
@[simp] theorem sz2 : sizeA Try.prog 2 = some 1 := by kernel_rfl
@[simp] theorem ag2 : aggA Try.prog 2 = some false := by kernel_rfl
@[simp] theorem co2 : Try.prog.cellsOf 2 = 1 := by kernel_rfl
@[simp] theorem ze2 : zeroA Try.prog 2 = some (.int .i64 0) := by kernel_rfl
@[simp] theorem by2 : bytesA Try.prog 2 = 8 := by kernel_rfl
attribute [simp] Try.underlying3
@[simp] theorem sz3 : sizeA Try.prog 3 = some 1 := by kernel_rfl
@[simp] theorem ag3 : aggA Try.prog 3 = some false := by kernel_rfl
@[simp] theorem co3 : Try.prog.cellsOf 3 = 1 := by kernel_rfl
@[simp] theorem ze3 : zeroA Try.prog 3 = some (.int .i64 0) := by kernel_rfl
@[simp] theorem by3 : bytesA Try.prog 3 = 8 := by kernel_rfl
attribute [simp] Try.underlying4
@[simp] theorem sz4 : sizeA Try.prog 4 = some 1 := by kernel_rfl
@[simp] theorem ag4 : aggA Try.prog 4 = some false := by kernel_rfl
@[simp] theorem co4 : Try.prog.cellsOf 4 = 1 := by kernel_rfl
@[simp] theorem ze4 : zeroA Try.prog 4 = some (.bool false) := by kernel_rfl
@[simp] theorem by4 : bytesA Try.prog 4 = 1 := by kernel_rfl
attribute [simp] Try.underlying5
@[simp] theorem sz5 : sizeA Try.prog 5 = some 1 := by kernel_rfl
@[simp] theorem ag5 : aggA Try.prog 5 = some false := by kernel_rfl
@[simp] theorem co5 : Try.prog.cellsOf 5 = 1 := by kernel_rfl
@[simp] theorem ze5 : zeroA Try.prog 5 = some (.int .u8 0) := by kernel_rfl
@[simp] theorem by5 : bytesA Try.prog 5 = 1 := by kernel_rfl
attribute [simp] Try.underlying6
@[simp] theorem sz6 : sizeA Try.prog 6 = some 1 := by kernel_rfl
@[simp] theorem ag6 : aggA Try.prog 6 = some false := by kernel_rfl
@[simp] theorem co6 : Try.prog.cellsOf 6 = 1 := by kernel_rfl
@[simp] theorem ze6 : zeroA Try.prog 6 = some (.int .u8 0) := by kernel_rfl
@[simp] theorem by6 : bytesA Try.prog 6 = 1 := by kernel_rfl
attribute [simp] Try.underlying7
@[simp] theorem sz7 : sizeA Try.prog 7 = some 4 := by kernel_rfl
@[simp] theorem ag7 : aggA Try.prog 7 = some true := by kernel_rfl
@[simp] theorem co7 : Try.prog.cellsOf 7 = 4 := by kernel_rfl
@[simp] theorem ze7 : zeroA Try.prog 7 = some (.agg #[(.int .i64 0), (.int .i64 0), (.bool false), (.int .u8 0)]) := by kernel_rfl
@[simp] theorem by7 : bytesA Try.prog 7 = 24 := by kernel_rfl
@[simp] theorem pl7 : placesA Try.prog 7 = some [(0, 1), (1, 1), (2, 1), (3, 1)] := by kernel_rfl
attribute [simp] Try.underlying8
@[simp] theorem sz8 : sizeA Try.prog 8 = some 4 := by kernel_rfl
@[simp] theorem ag8 : aggA Try.prog 8 = some true := by kernel_rfl
@[simp] theorem co8 : Try.prog.cellsOf 8 = 4 := by kernel_rfl
@[simp] theorem ze8 : zeroA Try.prog 8 = some (.agg #[(.int .i64 0), (.int .i64 0), (.bool false), (.int .u8 0)]) := by kernel_rfl
@[simp] theorem by8 : bytesA Try.prog 8 = 24 := by kernel_rfl
@[simp] theorem pl8 : placesA Try.prog 8 = some [(0, 1), (1, 1), (2, 1), (3, 1)] := by kernel_rfl
attribute [simp] Try.underlying9
@[simp] theorem sz9 : sizeA Try.prog 9 = some 1 := by kernel_rfl
@[simp] theorem ag9 : aggA Try.prog 9 = some false := by kernel_rfl
@[simp] theorem co9 : Try.prog.cellsOf 9 = 1 := by kernel_rfl
@[simp] theorem ze9 : zeroA Try.prog 9 = some (.string ⟨#[]⟩) := by kernel_rfl
@[simp] theorem by9 : bytesA Try.prog 9 = 16 := by kernel_rfl
attribute [simp] Try.underlying10
@[simp] theorem sz10 : sizeA Try.prog 10 = some 1 := by kernel_rfl
@[simp] theorem ag10 : aggA Try.prog 10 = some false := by kernel_rfl
@[simp] theorem co10 : Try.prog.cellsOf 10 = 1 := by kernel_rfl
@[simp] theorem ze10 : zeroA Try.prog 10 = some (.string ⟨#[]⟩) := by kernel_rfl
@[simp] theorem by10 : bytesA Try.prog 10 = 16 := by kernel_rfl
attribute [simp] Try.underlying11
@[simp] theorem sz11 : sizeA Try.prog 11 = some 1 := by kernel_rfl
@[simp] theorem ag11 : aggA Try.prog 11 = some false := by kernel_rfl
@[simp] theorem co11 : Try.prog.cellsOf 11 = 1 := by kernel_rfl
@[simp] theorem ze11 : zeroA Try.prog 11 = some (.string ⟨#[]⟩) := by kernel_rfl
@[simp] theorem by11 : bytesA Try.prog 11 = 16 := by kernel_rfl
attribute [simp] Try.underlying12
@[simp] theorem sz12 : sizeA Try.prog 12 = some 1 := by kernel_rfl
@[simp] theorem ag12 : aggA Try.prog 12 = some false := by kernel_rfl
@[simp] theorem co12 : Try.prog.cellsOf 12 = 1 := by kernel_rfl
@[simp] theorem ze12 : zeroA Try.prog 12 = some (.int .u64 0) := by kernel_rfl
@[simp] theorem by12 : bytesA Try.prog 12 = 8 := by kernel_rfl
attribute [simp] Try.underlying13
@[simp] theorem sz13 : sizeA Try.prog 13 = some 2 := by kernel_rfl
@[simp] theorem ag13 : aggA Try.prog 13 = some true := by kernel_rfl
@[simp] theorem co13 : Try.prog.cellsOf 13 = 2 := by kernel_rfl
@[simp] theorem ze13 : zeroA Try.prog 13 = some (.agg #[(.string ⟨#[]⟩), (.int .u64 0)]) := by kernel_rfl
@[simp] theorem by13 : bytesA Try.prog 13 = 24 := by kernel_rfl
@[simp] theorem pl13 : placesA Try.prog 13 = some [(0, 1), (1, 1)] := by kernel_rfl
attribute [simp] Try.underlying14
@[simp] theorem sz14 : sizeA Try.prog 14 = some 2 := by kernel_rfl
@[simp] theorem ag14 : aggA Try.prog 14 = some true := by kernel_rfl
@[simp] theorem co14 : Try.prog.cellsOf 14 = 2 := by kernel_rfl
@[simp] theorem ze14 : zeroA Try.prog 14 = some (.agg #[(.string ⟨#[]⟩), (.int .u64 0)]) := by kernel_rfl
@[simp] theorem by14 : bytesA Try.prog 14 = 24 := by kernel_rfl
@[simp] theorem pl14 : placesA Try.prog 14 = some [(0, 1), (1, 1)] := by kernel_rfl
attribute [simp] Try.underlying15
@[simp] theorem sz15 : sizeA Try.prog 15 = some 1 := by kernel_rfl
@[simp] theorem ag15 : aggA Try.prog 15 = some false := by kernel_rfl
@[simp] theorem co15 : Try.prog.cellsOf 15 = 1 := by kernel_rfl
@[simp] theorem ze15 : zeroA Try.prog 15 = some (.pointer none) := by kernel_rfl
@[simp] theorem by15 : bytesA Try.prog 15 = 8 := by kernel_rfl
attribute [simp] Try.underlying16
@[simp] theorem sz16 : sizeA Try.prog 16 = some 1 := by kernel_rfl
@[simp] theorem ag16 : aggA Try.prog 16 = some false := by kernel_rfl
@[simp] theorem co16 : Try.prog.cellsOf 16 = 1 := by kernel_rfl
@[simp] theorem ze16 : zeroA Try.prog 16 = some (.pointer none) := by kernel_rfl
@[simp] theorem by16 : bytesA Try.prog 16 = 8 := by kernel_rfl
attribute [simp] Try.underlying17
@[simp] theorem sz17 : sizeA Try.prog 17 = some 1 := by kernel_rfl
@[simp] theorem ag17 : aggA Try.prog 17 = some false := by kernel_rfl
@[simp] theorem co17 : Try.prog.cellsOf 17 = 1 := by kernel_rfl
@[simp] theorem ze17 : zeroA Try.prog 17 = some (.pointer none) := by kernel_rfl
@[simp] theorem by17 : bytesA Try.prog 17 = 8 := by kernel_rfl
attribute [simp] Try.underlying18
@[simp] theorem sz18 : sizeA Try.prog 18 = some 1 := by kernel_rfl
@[simp] theorem ag18 : aggA Try.prog 18 = some true := by kernel_rfl
@[simp] theorem co18 : Try.prog.cellsOf 18 = 1 := by kernel_rfl
@[simp] theorem ze18 : zeroA Try.prog 18 = some (.agg #[(.pointer none)]) := by kernel_rfl
@[simp] theorem by18 : bytesA Try.prog 18 = 8 := by kernel_rfl
@[simp] theorem pl18 : placesA Try.prog 18 = some [(0, 1)] := by kernel_rfl
attribute [simp] Try.underlying19
@[simp] theorem sz19 : sizeA Try.prog 19 = some 1 := by kernel_rfl
@[simp] theorem ag19 : aggA Try.prog 19 = some true := by kernel_rfl
@[simp] theorem co19 : Try.prog.cellsOf 19 = 1 := by kernel_rfl
@[simp] theorem ze19 : zeroA Try.prog 19 = some (.agg #[(.pointer none)]) := by kernel_rfl
@[simp] theorem by19 : bytesA Try.prog 19 = 8 := by kernel_rfl
@[simp] theorem pl19 : placesA Try.prog 19 = some [(0, 1)] := by kernel_rfl
attribute [simp] Try.underlying20
@[simp] theorem sz20 : sizeA Try.prog 20 = some 1 := by kernel_rfl
@[simp] theorem ag20 : aggA Try.prog 20 = some false := by kernel_rfl
@[simp] theorem co20 : Try.prog.cellsOf 20 = 1 := by kernel_rfl
@[simp] theorem ze20 : zeroA Try.prog 20 = some .nilIface := by kernel_rfl
@[simp] theorem by20 : bytesA Try.prog 20 = 16 := by kernel_rfl
attribute [simp] Try.underlying21
@[simp] theorem sz21 : sizeA Try.prog 21 = some 1 := by kernel_rfl
@[simp] theorem ag21 : aggA Try.prog 21 = some false := by kernel_rfl
@[simp] theorem co21 : Try.prog.cellsOf 21 = 1 := by kernel_rfl
@[simp] theorem ze21 : zeroA Try.prog 21 = some (.int .i32 0) := by kernel_rfl
@[simp] theorem by21 : bytesA Try.prog 21 = 4 := by kernel_rfl
attribute [simp] Try.underlying22
@[simp] theorem sz22 : sizeA Try.prog 22 = some 1 := by kernel_rfl
@[simp] theorem ag22 : aggA Try.prog 22 = some false := by kernel_rfl
@[simp] theorem co22 : Try.prog.cellsOf 22 = 1 := by kernel_rfl
@[simp] theorem ze22 : zeroA Try.prog 22 = some (.slice none 0 0) := by kernel_rfl
@[simp] theorem by22 : bytesA Try.prog 22 = 24 := by kernel_rfl
attribute [simp] Try.underlying23
@[simp] theorem sz23 : sizeA Try.prog 23 = some 1 := by kernel_rfl
@[simp] theorem ag23 : aggA Try.prog 23 = some false := by kernel_rfl
@[simp] theorem co23 : Try.prog.cellsOf 23 = 1 := by kernel_rfl
@[simp] theorem ze23 : zeroA Try.prog 23 = some (.slice none 0 0) := by kernel_rfl
@[simp] theorem by23 : bytesA Try.prog 23 = 24 := by kernel_rfl
attribute [simp] Try.underlying24
@[simp] theorem sz24 : sizeA Try.prog 24 = some 1 := by kernel_rfl
@[simp] theorem ag24 : aggA Try.prog 24 = some false := by kernel_rfl
@[simp] theorem co24 : Try.prog.cellsOf 24 = 1 := by kernel_rfl
@[simp] theorem ze24 : zeroA Try.prog 24 = some (.slice none 0 0) := by kernel_rfl
@[simp] theorem by24 : bytesA Try.prog 24 = 24 := by kernel_rfl
attribute [simp] Try.underlying25
@[simp] theorem sz25 : sizeA Try.prog 25 = some 3 := by kernel_rfl
@[simp] theorem ag25 : aggA Try.prog 25 = some true := by kernel_rfl
@[simp] theorem co25 : Try.prog.cellsOf 25 = 3 := by kernel_rfl
@[simp] theorem ze25 : zeroA Try.prog 25 = some (.agg #[(.slice none 0 0), (.slice none 0 0), (.slice none 0 0)]) := by kernel_rfl
@[simp] theorem by25 : bytesA Try.prog 25 = 72 := by kernel_rfl
@[simp] theorem pl25 : placesA Try.prog 25 = some [(0, 1), (1, 1), (2, 1)] := by kernel_rfl
attribute [simp] Try.underlying26
@[simp] theorem sz26 : sizeA Try.prog 26 = some 3 := by kernel_rfl
@[simp] theorem ag26 : aggA Try.prog 26 = some true := by kernel_rfl
@[simp] theorem co26 : Try.prog.cellsOf 26 = 3 := by kernel_rfl
@[simp] theorem ze26 : zeroA Try.prog 26 = some (.agg #[(.slice none 0 0), (.slice none 0 0), (.slice none 0 0)]) := by kernel_rfl
@[simp] theorem by26 : bytesA Try.prog 26 = 72 := by kernel_rfl
@[simp] theorem pl26 : placesA Try.prog 26 = some [(0, 1), (1, 1), (2, 1)] := by kernel_rfl
attribute [simp] Try.underlying27
@[simp] theorem sz27 : sizeA Try.prog 27 = some 1 := by kernel_rfl
@[simp] theorem ag27 : aggA Try.prog 27 = some false := by kernel_rfl
@[simp] theorem co27 : Try.prog.cellsOf 27 = 1 := by kernel_rfl
@[simp] theorem ze27 : zeroA Try.prog 27 = some (.pointer none) := by kernel_rfl
@[simp] theorem by27 : bytesA Try.prog 27 = 8 := by kernel_rfl
attribute [simp] Try.underlying28
@[simp] theorem sz28 : sizeA Try.prog 28 = some 1 := by kernel_rfl
@[simp] theorem ag28 : aggA Try.prog 28 = some false := by kernel_rfl
@[simp] theorem co28 : Try.prog.cellsOf 28 = 1 := by kernel_rfl
@[simp] theorem ze28 : zeroA Try.prog 28 = some (.slice none 0 0) := by kernel_rfl
@[simp] theorem by28 : bytesA Try.prog 28 = 24 := by kernel_rfl
attribute [simp] Try.underlying30
@[simp] theorem sz30 : sizeA Try.prog 30 = some 2 := by kernel_rfl
@[simp] theorem ag30 : aggA Try.prog 30 = some true := by kernel_rfl
@[simp] theorem co30 : Try.prog.cellsOf 30 = 2 := by kernel_rfl
@[simp] theorem ze30 : zeroA Try.prog 30 = some (.agg #[(.slice none 0 0), (.int .i64 0)]) := by kernel_rfl
@[simp] theorem by30 : bytesA Try.prog 30 = 32 := by kernel_rfl
@[simp] theorem pl30 : placesA Try.prog 30 = some [(0, 1), (1, 1)] := by kernel_rfl
attribute [simp] Try.underlying31
@[simp] theorem sz31 : sizeA Try.prog 31 = some 2 := by kernel_rfl
@[simp] theorem ag31 : aggA Try.prog 31 = some true := by kernel_rfl
@[simp] theorem co31 : Try.prog.cellsOf 31 = 2 := by kernel_rfl
@[simp] theorem ze31 : zeroA Try.prog 31 = some (.agg #[(.slice none 0 0), (.int .i64 0)]) := by kernel_rfl
@[simp] theorem by31 : bytesA Try.prog 31 = 32 := by kernel_rfl
@[simp] theorem pl31 : placesA Try.prog 31 = some [(0, 1), (1, 1)] := by kernel_rfl
attribute [simp] Try.underlying34
@[simp] theorem sz34 : sizeA Try.prog 34 = some 1 := by kernel_rfl
@[simp] theorem ag34 : aggA Try.prog 34 = some false := by kernel_rfl
@[simp] theorem co34 : Try.prog.cellsOf 34 = 1 := by kernel_rfl
@[simp] theorem ze34 : zeroA Try.prog 34 = some (.int .u32 0) := by kernel_rfl
@[simp] theorem by34 : bytesA Try.prog 34 = 4 := by kernel_rfl
attribute [simp] Try.underlying35
@[simp] theorem sz35 : sizeA Try.prog 35 = some 6 := by kernel_rfl
@[simp] theorem ag35 : aggA Try.prog 35 = some true := by kernel_rfl
@[simp] theorem co35 : Try.prog.cellsOf 35 = 6 := by kernel_rfl
@[simp] theorem ze35 : zeroA Try.prog 35 = some (.agg #[(.int .i64 0), (.int .i64 0), (.bool false), (.int .i64 0), (.int .u32 0), (.int .i64 0)]) := by kernel_rfl
@[simp] theorem by35 : bytesA Try.prog 35 = 48 := by kernel_rfl
@[simp] theorem pl35 : placesA Try.prog 35 = some [(0, 1), (1, 1), (2, 1), (3, 1), (4, 1), (5, 1)] := by kernel_rfl
attribute [simp] Try.underlying36
@[simp] theorem sz36 : sizeA Try.prog 36 = some 6 := by kernel_rfl
@[simp] theorem ag36 : aggA Try.prog 36 = some true := by kernel_rfl
@[simp] theorem co36 : Try.prog.cellsOf 36 = 6 := by kernel_rfl
@[simp] theorem ze36 : zeroA Try.prog 36 = some (.agg #[(.int .i64 0), (.int .i64 0), (.bool false), (.int .i64 0), (.int .u32 0), (.int .i64 0)]) := by kernel_rfl
@[simp] theorem by36 : bytesA Try.prog 36 = 48 := by kernel_rfl
@[simp] theorem pl36 : placesA Try.prog 36 = some [(0, 1), (1, 1), (2, 1), (3, 1), (4, 1), (5, 1)] := by kernel_rfl
attribute [simp] Try.underlying38
@[simp] theorem sz38 : sizeA Try.prog 38 = some 1 := by kernel_rfl
@[simp] theorem ag38 : aggA Try.prog 38 = some false := by kernel_rfl
@[simp] theorem co38 : Try.prog.cellsOf 38 = 1 := by kernel_rfl
@[simp] theorem ze38 : zeroA Try.prog 38 = some (.slice none 0 0) := by kernel_rfl
@[simp] theorem by38 : bytesA Try.prog 38 = 24 := by kernel_rfl
attribute [simp] Try.underlying40
@[simp] theorem sz40 : sizeA Try.prog 40 = some 1 := by kernel_rfl
@[simp] theorem ag40 : aggA Try.prog 40 = some false := by kernel_rfl
@[simp] theorem co40 : Try.prog.cellsOf 40 = 1 := by kernel_rfl
@[simp] theorem ze40 : zeroA Try.prog 40 = some (.slice none 0 0) := by kernel_rfl
@[simp] theorem by40 : bytesA Try.prog 40 = 24 := by kernel_rfl
attribute [simp] Try.underlying49
@[simp] theorem sz49 : sizeA Try.prog 49 = some 1 := by kernel_rfl
@[simp] theorem ag49 : aggA Try.prog 49 = some false := by kernel_rfl
@[simp] theorem co49 : Try.prog.cellsOf 49 = 1 := by kernel_rfl
@[simp] theorem ze49 : zeroA Try.prog 49 = some (.slice none 0 0) := by kernel_rfl
@[simp] theorem by49 : bytesA Try.prog 49 = 24 := by kernel_rfl
attribute [simp] Try.underlying52
@[simp] theorem sz52 : sizeA Try.prog 52 = some 1 := by kernel_rfl
@[simp] theorem ag52 : aggA Try.prog 52 = some false := by kernel_rfl
@[simp] theorem co52 : Try.prog.cellsOf 52 = 1 := by kernel_rfl
@[simp] theorem ze52 : zeroA Try.prog 52 = some (.slice none 0 0) := by kernel_rfl
@[simp] theorem by52 : bytesA Try.prog 52 = 24 := by kernel_rfl
attribute [simp] Try.underlying54
@[simp] theorem sz54 : sizeA Try.prog 54 = some 3 := by kernel_rfl
@[simp] theorem ag54 : aggA Try.prog 54 = some true := by kernel_rfl
@[simp] theorem co54 : Try.prog.cellsOf 54 = 3 := by kernel_rfl
@[simp] theorem ze54 : zeroA Try.prog 54 = some (.agg #[(.int .i64 0), (.int .i64 0), (.int .i64 0)]) := by kernel_rfl
@[simp] theorem by54 : bytesA Try.prog 54 = 24 := by kernel_rfl
@[simp] theorem pl54 : placesA Try.prog 54 = some [(0, 1), (1, 1), (2, 1)] := by kernel_rfl
attribute [simp] Try.underlying55
@[simp] theorem sz55 : sizeA Try.prog 55 = some 3 := by kernel_rfl
@[simp] theorem ag55 : aggA Try.prog 55 = some true := by kernel_rfl
@[simp] theorem co55 : Try.prog.cellsOf 55 = 3 := by kernel_rfl
@[simp] theorem ze55 : zeroA Try.prog 55 = some (.agg #[(.int .i64 0), (.int .i64 0), (.int .i64 0)]) := by kernel_rfl
@[simp] theorem by55 : bytesA Try.prog 55 = 24 := by kernel_rfl
@[simp] theorem pl55 : placesA Try.prog 55 = some [(0, 1), (1, 1), (2, 1)] := by kernel_rfl
attribute [simp] Try.underlying56
@[simp] theorem sz56 : sizeA Try.prog 56 = some 1 := by kernel_rfl
@[simp] theorem ag56 : aggA Try.prog 56 = some false := by kernel_rfl
@[simp] theorem co56 : Try.prog.cellsOf 56 = 1 := by kernel_rfl
@[simp] theorem ze56 : zeroA Try.prog 56 = some (.int .i64 0) := by kernel_rfl
@[simp] theorem by56 : bytesA Try.prog 56 = 8 := by kernel_rfl
attribute [simp] Try.underlying65
@[simp] theorem sz65 : sizeA Try.prog 65 = some 1 := by kernel_rfl
@[simp] theorem ag65 : aggA Try.prog 65 = some false := by kernel_rfl
@[simp] theorem co65 : Try.prog.cellsOf 65 = 1 := by kernel_rfl
@[simp] theorem ze65 : zeroA Try.prog 65 = some (.slice none 0 0) := by kernel_rfl
@[simp] theorem by65 : bytesA Try.prog 65 = 24 := by kernel_rfl
attribute [simp] Try.underlying66
@[simp] theorem sz66 : sizeA Try.prog 66 = some 5 := by kernel_rfl
@[simp] theorem ag66 : aggA Try.prog 66 = some true := by kernel_rfl
@[simp] theorem co66 : Try.prog.cellsOf 66 = 5 := by kernel_rfl
@[simp] theorem ze66 : zeroA Try.prog 66 = some (.agg #[(.int .i64 0), (.int .i64 0), (.int .i64 0), (.int .i64 0), (.int .i64 0)]) := by kernel_rfl
@[simp] theorem by66 : bytesA Try.prog 66 = 40 := by kernel_rfl
attribute [simp] Try.underlying67
@[simp] theorem sz67 : sizeA Try.prog 67 = some 11 := by kernel_rfl
@[simp] theorem ag67 : aggA Try.prog 67 = some true := by kernel_rfl
@[simp] theorem co67 : Try.prog.cellsOf 67 = 11 := by kernel_rfl
@[simp] theorem ze67 : zeroA Try.prog 67 = some (.agg #[(.string ⟨#[]⟩), (.int .i64 0), (.int .i64 0), (.bool false), (.bool false), (.slice none 0 0), (.int .i64 0), (.int .i64 0), (.int .i64 0), (.int .i64 0), (.int .i64 0)]) := by kernel_rfl
@[simp] theorem by67 : bytesA Try.prog 67 = 104 := by kernel_rfl
@[simp] theorem pl67 : placesA Try.prog 67 = some [(0, 1), (1, 1), (2, 1), (3, 1), (4, 1), (5, 1), (6, 5)] := by kernel_rfl
attribute [simp] Try.underlying68
@[simp] theorem sz68 : sizeA Try.prog 68 = some 11 := by kernel_rfl
@[simp] theorem ag68 : aggA Try.prog 68 = some true := by kernel_rfl
@[simp] theorem co68 : Try.prog.cellsOf 68 = 11 := by kernel_rfl
@[simp] theorem ze68 : zeroA Try.prog 68 = some (.agg #[(.string ⟨#[]⟩), (.int .i64 0), (.int .i64 0), (.bool false), (.bool false), (.slice none 0 0), (.int .i64 0), (.int .i64 0), (.int .i64 0), (.int .i64 0), (.int .i64 0)]) := by kernel_rfl
@[simp] theorem by68 : bytesA Try.prog 68 = 104 := by kernel_rfl
@[simp] theorem pl68 : placesA Try.prog 68 = some [(0, 1), (1, 1), (2, 1), (3, 1), (4, 1), (5, 1), (6, 5)] := by kernel_rfl
attribute [simp] Try.underlying69
@[simp] theorem sz69 : sizeA Try.prog 69 = some 2 := by kernel_rfl
@[simp] theorem ag69 : aggA Try.prog 69 = some true := by kernel_rfl
@[simp] theorem co69 : Try.prog.cellsOf 69 = 2 := by kernel_rfl
@[simp] theorem ze69 : zeroA Try.prog 69 = some (.agg #[(.int .i64 0), (.int .i64 0)]) := by kernel_rfl
@[simp] theorem by69 : bytesA Try.prog 69 = 16 := by kernel_rfl
@[simp] theorem pl69 : placesA Try.prog 69 = some [(0, 1), (1, 1)] := by kernel_rfl
attribute [simp] Try.underlying70
@[simp] theorem sz70 : sizeA Try.prog 70 = some 2 := by kernel_rfl
@[simp] theorem ag70 : aggA Try.prog 70 = some true := by kernel_rfl
@[simp] theorem co70 : Try.prog.cellsOf 70 = 2 := by kernel_rfl
@[simp] theorem ze70 : zeroA Try.prog 70 = some (.agg #[(.int .i64 0), (.int .i64 0)]) := by kernel_rfl
@[simp] theorem by70 : bytesA Try.prog 70 = 16 := by kernel_rfl
@[simp] theorem pl70 : placesA Try.prog 70 = some [(0, 1), (1, 1)] := by kernel_rfl
attribute [simp] Try.underlying71
@[simp] theorem sz71 : sizeA Try.prog 71 = some 1 := by kernel_rfl
@[simp] theorem ag71 : aggA Try.prog 71 = some false := by kernel_rfl
@[simp] theorem co71 : Try.prog.cellsOf 71 = 1 := by kernel_rfl
@[simp] theorem ze71 : zeroA Try.prog 71 = some (.slice none 0 0) := by kernel_rfl
@[simp] theorem by71 : bytesA Try.prog 71 = 24 := by kernel_rfl
attribute [simp] Try.underlying84
@[simp] theorem sz84 : sizeA Try.prog 84 = some 1 := by kernel_rfl
@[simp] theorem ag84 : aggA Try.prog 84 = some false := by kernel_rfl
@[simp] theorem co84 : Try.prog.cellsOf 84 = 1 := by kernel_rfl
@[simp] theorem ze84 : zeroA Try.prog 84 = some (.slice none 0 0) := by kernel_rfl
@[simp] theorem by84 : bytesA Try.prog 84 = 24 := by kernel_rfl
attribute [simp] Try.underlying88
@[simp] theorem sz88 : sizeA Try.prog 88 = some 1 := by kernel_rfl
@[simp] theorem ag88 : aggA Try.prog 88 = some false := by kernel_rfl
@[simp] theorem co88 : Try.prog.cellsOf 88 = 1 := by kernel_rfl
@[simp] theorem ze88 : zeroA Try.prog 88 = some (.slice none 0 0) := by kernel_rfl
@[simp] theorem by88 : bytesA Try.prog 88 = 24 := by kernel_rfl
attribute [simp] Try.underlying94
@[simp] theorem sz94 : sizeA Try.prog 94 = some 6 := by kernel_rfl
@[simp] theorem ag94 : aggA Try.prog 94 = some true := by kernel_rfl
@[simp] theorem co94 : Try.prog.cellsOf 94 = 6 := by kernel_rfl
@[simp] theorem ze94 : zeroA Try.prog 94 = some (.agg #[(.int .i64 0), (.int .i64 0), (.int .i64 0), (.int .i64 0), (.int .i64 0), (.int .i64 0)]) := by kernel_rfl
@[simp] theorem by94 : bytesA Try.prog 94 = 48 := by kernel_rfl
@[simp] theorem pl94 : placesA Try.prog 94 = some [(0, 3), (3, 1), (4, 1), (5, 1)] := by kernel_rfl
attribute [simp] Try.underlying95
@[simp] theorem sz95 : sizeA Try.prog 95 = some 6 := by kernel_rfl
@[simp] theorem ag95 : aggA Try.prog 95 = some true := by kernel_rfl
@[simp] theorem co95 : Try.prog.cellsOf 95 = 6 := by kernel_rfl
@[simp] theorem ze95 : zeroA Try.prog 95 = some (.agg #[(.int .i64 0), (.int .i64 0), (.int .i64 0), (.int .i64 0), (.int .i64 0), (.int .i64 0)]) := by kernel_rfl
@[simp] theorem by95 : bytesA Try.prog 95 = 48 := by kernel_rfl
@[simp] theorem pl95 : placesA Try.prog 95 = some [(0, 3), (3, 1), (4, 1), (5, 1)] := by kernel_rfl
attribute [simp] Try.underlying96
@[simp] theorem sz96 : sizeA Try.prog 96 = some 1 := by kernel_rfl
@[simp] theorem ag96 : aggA Try.prog 96 = some false := by kernel_rfl
@[simp] theorem co96 : Try.prog.cellsOf 96 = 1 := by kernel_rfl
@[simp] theorem ze96 : zeroA Try.prog 96 = some (.slice none 0 0) := by kernel_rfl
@[simp] theorem by96 : bytesA Try.prog 96 = 24 := by kernel_rfl
attribute [simp] Try.underlying97
@[simp] theorem sz97 : sizeA Try.prog 97 = some 1 := by kernel_rfl
@[simp] theorem ag97 : aggA Try.prog 97 = some false := by kernel_rfl
@[simp] theorem co97 : Try.prog.cellsOf 97 = 1 := by kernel_rfl
@[simp] theorem ze97 : zeroA Try.prog 97 = some (.pointer none) := by kernel_rfl
@[simp] theorem by97 : bytesA Try.prog 97 = 8 := by kernel_rfl
attribute [simp] Try.underlying101
@[simp] theorem sz101 : sizeA Try.prog 101 = some 2 := by kernel_rfl
@[simp] theorem ag101 : aggA Try.prog 101 = some true := by kernel_rfl
@[simp] theorem co101 : Try.prog.cellsOf 101 = 2 := by kernel_rfl
@[simp] theorem ze101 : zeroA Try.prog 101 = some (.agg #[(.int .i64 0), (.int .i64 0)]) := by kernel_rfl
@[simp] theorem by101 : bytesA Try.prog 101 = 16 := by kernel_rfl
@[simp] theorem pl101 : placesA Try.prog 101 = some [(0, 1), (1, 1)] := by kernel_rfl
attribute [simp] Try.underlying102
@[simp] theorem sz102 : sizeA Try.prog 102 = some 2 := by kernel_rfl
@[simp] theorem ag102 : aggA Try.prog 102 = some true := by kernel_rfl
@[simp] theorem co102 : Try.prog.cellsOf 102 = 2 := by kernel_rfl
@[simp] theorem ze102 : zeroA Try.prog 102 = some (.agg #[(.int .i64 0), (.int .i64 0)]) := by kernel_rfl
@[simp] theorem by102 : bytesA Try.prog 102 = 16 := by kernel_rfl
@[simp] theorem pl102 : placesA Try.prog 102 = some [(0, 1), (1, 1)] := by kernel_rfl
attribute [simp] Try.underlying112
@[simp] theorem sz112 : sizeA Try.prog 112 = some 4 := by kernel_rfl
@[simp] theorem ag112 : aggA Try.prog 112 = some true := by kernel_rfl
@[simp] theorem co112 : Try.prog.cellsOf 112 = 4 := by kernel_rfl
@[simp] theorem ze112 : zeroA Try.prog 112 = some (.agg #[(.pointer none), (.pointer none), (.pointer none), (.string ⟨#[]⟩)]) := by kernel_rfl
@[simp] theorem by112 : bytesA Try.prog 112 = 40 := by kernel_rfl
@[simp] theorem pl112 : placesA Try.prog 112 = some [(0, 1), (1, 1), (2, 1), (3, 1)] := by kernel_rfl
attribute [simp] Try.underlying113
@[simp] theorem sz113 : sizeA Try.prog 113 = some 4 := by kernel_rfl
@[simp] theorem ag113 : aggA Try.prog 113 = some true := by kernel_rfl
@[simp] theorem co113 : Try.prog.cellsOf 113 = 4 := by kernel_rfl
@[simp] theorem ze113 : zeroA Try.prog 113 = some (.agg #[(.pointer none), (.pointer none), (.pointer none), (.string ⟨#[]⟩)]) := by kernel_rfl
@[simp] theorem by113 : bytesA Try.prog 113 = 40 := by kernel_rfl
@[simp] theorem pl113 : placesA Try.prog 113 = some [(0, 1), (1, 1), (2, 1), (3, 1)] := by kernel_rfl
attribute [simp] Try.underlying114
@[simp] theorem sz114 : sizeA Try.prog 114 = some 0 := by kernel_rfl
@[simp] theorem ag114 : aggA Try.prog 114 = some true := by kernel_rfl
@[simp] theorem co114 : Try.prog.cellsOf 114 = 0 := by kernel_rfl
@[simp] theorem ze114 : zeroA Try.prog 114 = some (.agg #[]) := by kernel_rfl
@[simp] theorem by114 : bytesA Try.prog 114 = 0 := by kernel_rfl
attribute [simp] Try.underlying115
@[simp] theorem sz115 : sizeA Try.prog 115 = some 0 := by kernel_rfl
@[simp] theorem ag115 : aggA Try.prog 115 = some true := by kernel_rfl
@[simp] theorem co115 : Try.prog.cellsOf 115 = 0 := by kernel_rfl
@[simp] theorem ze115 : zeroA Try.prog 115 = some (.agg #[]) := by kernel_rfl
@[simp] theorem by115 : bytesA Try.prog 115 = 0 := by kernel_rfl
@[simp] theorem pl115 : placesA Try.prog 115 = some [(0, 0)] := by kernel_rfl
attribute [simp] Try.underlying116
@[simp] theorem sz116 : sizeA Try.prog 116 = some 0 := by kernel_rfl
@[simp] theorem ag116 : aggA Try.prog 116 = some true := by kernel_rfl
@[simp] theorem co116 : Try.prog.cellsOf 116 = 0 := by kernel_rfl
@[simp] theorem ze116 : zeroA Try.prog 116 = some (.agg #[]) := by kernel_rfl
@[simp] theorem by116 : bytesA Try.prog 116 = 0 := by kernel_rfl
@[simp] theorem pl116 : placesA Try.prog 116 = some [(0, 0)] := by kernel_rfl
attribute [simp] Try.underlying118
@[simp] theorem sz118 : sizeA Try.prog 118 = some 1 := by kernel_rfl
@[simp] theorem ag118 : aggA Try.prog 118 = some false := by kernel_rfl
@[simp] theorem co118 : Try.prog.cellsOf 118 = 1 := by kernel_rfl
@[simp] theorem ze118 : zeroA Try.prog 118 = some (.int .u8 0) := by kernel_rfl
@[simp] theorem by118 : bytesA Try.prog 118 = 1 := by kernel_rfl
attribute [simp] Try.underlying119
@[simp] theorem sz119 : sizeA Try.prog 119 = some 1 := by kernel_rfl
@[simp] theorem ag119 : aggA Try.prog 119 = some false := by kernel_rfl
@[simp] theorem co119 : Try.prog.cellsOf 119 = 1 := by kernel_rfl
@[simp] theorem ze119 : zeroA Try.prog 119 = some (.int .u8 0) := by kernel_rfl
@[simp] theorem by119 : bytesA Try.prog 119 = 1 := by kernel_rfl
attribute [simp] Try.underlying121
@[simp] theorem sz121 : sizeA Try.prog 121 = some 1 := by kernel_rfl
@[simp] theorem ag121 : aggA Try.prog 121 = some false := by kernel_rfl
@[simp] theorem co121 : Try.prog.cellsOf 121 = 1 := by kernel_rfl
@[simp] theorem ze121 : zeroA Try.prog 121 = some (.pointer none) := by kernel_rfl
@[simp] theorem by121 : bytesA Try.prog 121 = 8 := by kernel_rfl
attribute [simp] Try.underlying122
@[simp] theorem sz122 : sizeA Try.prog 122 = some 1 := by kernel_rfl
@[simp] theorem ag122 : aggA Try.prog 122 = some false := by kernel_rfl
@[simp] theorem co122 : Try.prog.cellsOf 122 = 1 := by kernel_rfl
@[simp] theorem ze122 : zeroA Try.prog 122 = some (.int .i32 0) := by kernel_rfl
@[simp] theorem by122 : bytesA Try.prog 122 = 4 := by kernel_rfl
attribute [simp] Try.underlying123
@[simp] theorem sz123 : sizeA Try.prog 123 = some 1 := by kernel_rfl
@[simp] theorem ag123 : aggA Try.prog 123 = some false := by kernel_rfl
@[simp] theorem co123 : Try.prog.cellsOf 123 = 1 := by kernel_rfl
@[simp] theorem ze123 : zeroA Try.prog 123 = some (.int .i32 0) := by kernel_rfl
@[simp] theorem by123 : bytesA Try.prog 123 = 4 := by kernel_rfl
attribute [simp] Try.underlying124
@[simp] theorem sz124 : sizeA Try.prog 124 = some 11 := by kernel_rfl
@[simp] theorem ag124 : aggA Try.prog 124 = some true := by kernel_rfl
@[simp] theorem co124 : Try.prog.cellsOf 124 = 11 := by kernel_rfl
@[simp] theorem ze124 : zeroA Try.prog 124 = some (.agg #[(.int .u64 0), (.int .u64 0), (.int .u32 0), (.int .u8 0), (.int .u8 0), (.int .u8 0), (.int .u8 0), .nilFunc, (.pointer none), (.int .i32 0), (.int .i32 0)]) := by kernel_rfl
@[simp] theorem by124 : bytesA Try.prog 124 = 48 := by kernel_rfl
@[simp] theorem pl124 : placesA Try.prog 124 = some [(0, 1), (1, 1), (2, 1), (3, 1), (4, 1), (5, 1), (6, 1), (7, 1), (8, 1), (9, 1), (10, 1)] := by kernel_rfl
attribute [simp] Try.underlying125
@[simp] theorem sz125 : sizeA Try.prog 125 = some 11 := by kernel_rfl
@[simp] theorem ag125 : aggA Try.prog 125 = some true := by kernel_rfl
@[simp] theorem co125 : Try.prog.cellsOf 125 = 11 := by kernel_rfl
@[simp] theorem ze125 : zeroA Try.prog 125 = some (.agg #[(.int .u64 0), (.int .u64 0), (.int .u32 0), (.int .u8 0), (.int .u8 0), (.int .u8 0), (.int .u8 0), .nilFunc, (.pointer none), (.int .i32 0), (.int .i32 0)]) := by kernel_rfl
@[simp] theorem by125 : bytesA Try.prog 125 = 48 := by kernel_rfl
@[simp] theorem pl125 : placesA Try.prog 125 = some [(0, 1), (1, 1), (2, 1), (3, 1), (4, 1), (5, 1), (6, 1), (7, 1), (8, 1), (9, 1), (10, 1)] := by kernel_rfl
@[simp] theorem pe36 : plainEq Try.prog 36 = true := by kernel_rfl
@[simp] theorem pe55 : plainEq Try.prog 55 = true := by kernel_rfl
@[simp] theorem pe70 : plainEq Try.prog 70 = true := by kernel_rfl
@[simp] theorem pe102 : plainEq Try.prog 102 = true := by kernel_rfl
theorem el22 : ElT Try.prog 22 68 11 104 := ⟨Try.underlying22, sz68, ⟨_, ze68, rfl, rfl, rfl⟩, by68, by decide, by decide⟩
theorem el23 : ElT Try.prog 23 36 6 48 := ⟨Try.underlying23, sz36, ⟨_, ze36, rfl, rfl, rfl⟩, by36, by decide, by decide⟩
theorem el24 : ElT Try.prog 24 49 1 24 := ⟨Try.underlying24, sz49, ⟨_, ze49, rfl, rfl, rfl⟩, by49, by decide, by decide⟩
theorem el28 : ElT Try.prog 28 3 1 8 := ⟨Try.underlying28, sz3, ⟨_, ze3, rfl, rfl, rfl⟩, by3, by decide, by decide⟩
theorem el38 : ElT Try.prog 38 40 1 24 := ⟨Try.underlying38, sz40, ⟨_, ze40, rfl, rfl, rfl⟩, by40, by decide, by decide⟩
theorem el40 : ElT Try.prog 40 4 1 1 := ⟨Try.underlying40, sz4, ⟨_, ze4, rfl, rfl, rfl⟩, by4, by decide, by decide⟩
theorem el49 : ElT Try.prog 49 55 3 24 := ⟨Try.underlying49, sz55, ⟨_, ze55, rfl, rfl, rfl⟩, by55, by decide, by decide⟩
theorem el52 : ElT Try.prog 52 2 1 8 := ⟨Try.underlying52, sz2, ⟨_, ze2, rfl, rfl, rfl⟩, by2, by decide, by decide⟩
theorem el65 : ElT Try.prog 65 70 2 16 := ⟨Try.underlying65, sz70, ⟨_, ze70, rfl, rfl, rfl⟩, by70, by decide, by decide⟩
theorem el71 : ElT Try.prog 71 34 1 4 := ⟨Try.underlying71, sz34, ⟨_, ze34, rfl, rfl, rfl⟩, by34, by decide, by decide⟩
theorem el84 : ElT Try.prog 84 102 2 16 := ⟨Try.underlying84, sz102, ⟨_, ze102, rfl, rfl, rfl⟩, by102, by decide, by decide⟩
theorem el88 : ElT Try.prog 88 84 1 24 := ⟨Try.underlying88, sz84, ⟨_, ze84, rfl, rfl, rfl⟩, by84, by decide, by decide⟩
theorem el96 : ElT Try.prog 96 95 6 48 := ⟨Try.underlying96, sz95, ⟨_, ze95, rfl, rfl, rfl⟩, by95, by decide, by decide⟩
theorem mixd : Try.prog.follows .mixedOrders = true := by kernel_rfl
end Go.Proofs.Ytggkeldedennfaa

set_option linter.unusedVariables false
set_option linter.unusedSimpArgs false
namespace Go.Nod
open Go Go.RowKit Go.Lay

structure Nd where
  k : Int
  p : Int
  n : Int
deriving DecidableEq
def Nd.enc (x : Nd) : List Value := [.int .i64 x.k, .int .i64 x.p, .int .i64 x.n]
def nodeK : Kd Nd := flatK 3 Nd.enc (fun _ => rfl) (fun x v hv => by simp [Nd.enc] at hv; rcases hv with rfl | rfl | rfl <;> rfl)
def kidsM (x : Nd) : Int := if x.n < 1 ∨ (x.k ≠ 1 ∧ x.p ≠ 0) then -1 else if (x.k = 1 ∧ 0 ≤ x.p ∧ x.p < 6) ∨ x.k = 2 then 0 else if x.k = 3 ∧ x.n ≤ 128 then x.n else if x.k = 4 then 1 else -1
theorem kidsM_bd (x : Nd) : -1 ≤ kidsM x ∧ kidsM x ≤ 128 := by unfold kidsM; split <;> (try split) <;> (try split) <;> (try split) <;> omega

/-- Size, as the code reckons it. -/
def sizeGo : List Nd → Int → Int → Int
  | [], _, _ => 0
  | x :: xs, left, c => if kidsM x < 0 then 0 else if left + (kidsM x - 1) = 0 then c + 1 else sizeGo xs (left + (kidsM x - 1)) (c + 1)
def sizeM (xs : List Nd) (at_ : Int) : Int := if at_ < 0 ∨ (xs.length : Int) ≤ at_ then 0 else sizeGo (xs.drop at_.toNat) 1 0

/-- Rows of trees: a node, its children, what stands beside it. -/
inductive F where
  | nil
  | cons (x : Nd) (ks r : F)
deriving DecidableEq
namespace F
def flat : F → List Nd
  | nil => []
  | cons x ks r => x :: (ks.flat ++ r.flat)
def cnt : F → Nat
  | nil => 0
  | cons _ _ r => r.cnt + 1
def ok : F → Prop
  | nil => True
  | cons x ks r => kidsM x = (ks.cnt : Int) ∧ ks.ok ∧ r.ok
def take : Nat → F → F
  | 0, _ => nil
  | _ + 1, nil => nil
  | n + 1, cons x ks r => cons x ks (take n r)
def drop : Nat → F → F
  | 0, f => f
  | _ + 1, nil => nil
  | n + 1, cons _ _ r => drop n r
theorem take_ok : ∀ (n : Nat) (f : F), f.ok → (f.take n).ok ∧ (f.drop n).ok ∧ (f.take n).flat ++ (f.drop n).flat = f.flat ∧ (n ≤ f.cnt → (f.take n).cnt = n ∧ (f.drop n).cnt + n = f.cnt)
  | 0, f, h => by simp [take, drop, flat, ok, cnt, h]
  | n + 1, nil, h => by simp [take, drop, flat, ok, cnt]
  | n + 1, cons x ks r, h => by
    obtain ⟨h1, h2, h3⟩ := h
    obtain ⟨i1, i2, i3, i4⟩ := take_ok n r h3
    refine ⟨⟨h1, h2, i1⟩, i2, by simp [take, drop, flat, i3], fun hn => ?_⟩
    obtain ⟨j1, j2⟩ := i4 (by simp [cnt] at hn; omega)
    simp [take, drop, cnt, j1]; omega
end F

/-- A row that is told whole is a row of trees, and back. -/
theorem scan_f (f : F) : f.ok → ∀ (ys : List Nd) (e c : Int), 0 ≤ e → 1 ≤ f.cnt + e →
    sizeGo (f.flat ++ ys) (f.cnt + e) c = if f = .nil then sizeGo ys e c else if e = 0 then c + f.flat.length else sizeGo ys e (c + f.flat.length) := by
  induction f with
  | nil => intro _ ys e c _ _; simp [F.flat, F.cnt]
  | cons x ks r ih1 ih2 =>
    intro ⟨h1, h2, h3⟩ ys e c he _
    simp only [F.flat, F.cnt, List.cons_append, List.append_assoc, sizeGo, h1]
    rw [if_neg (by omega)]
    have e1 : ((r.cnt + 1 : Nat) : Int) + e + ((ks.cnt : Int) - 1) = ks.cnt + (r.cnt + e) := by omega
    rw [e1]
    simp only [reduceCtorEq, if_false, List.length_cons, List.length_append]
    by_cases hz : (ks.cnt : Int) + (r.cnt + e) = 0
    · have k0 : ks = .nil := by cases ks <;> simp [F.cnt] at *; omega
      have r0 : r = .nil := by cases r <;> simp [F.cnt] at *; omega
      subst k0; subst r0
      have : e = 0 := by simp [F.cnt] at hz; exact hz
      subst this
      simp [F.cnt, F.flat]
    · rw [if_neg hz, ih1 h2 _ _ _ (by omega) (by omega)]
      by_cases k0 : ks = .nil
      · subst k0
        simp only [if_true, F.flat, List.length_nil]
        by_cases r0 : r = .nil
        · subst r0
          simp [F.cnt, F.flat] at *
          exact fun h => absurd h hz
        · rw [ih2 h3 _ _ _ he (by simp [F.cnt] at hz; omega), if_neg r0]
          split <;> (first | omega | (congr 1; omega))
      · rw [if_neg k0]
        by_cases re : (r.cnt : Int) + e = 0
        · have r0 : r = .nil := by cases r <;> simp [F.cnt] at *; omega
          subst r0
          have : e = 0 := by simp [F.cnt] at re; exact re
          subst this
          simp [F.cnt, F.flat]; omega
        · rw [if_neg re, ih2 h3 _ _ _ he (by omega)]
          by_cases r0 : r = .nil
          · subst r0
            simp [F.cnt, F.flat] at *
            rw [if_neg re]; congr 1; omega
          · rw [if_neg r0]
            split <;> (first | omega | (congr 1; omega))

theorem sizeGo_c : ∀ (xs : List Nd) (l c : Int), 0 ≤ c → sizeGo xs l c = 0 ∨ c < sizeGo xs l c
  | [], _, _, _ => .inl rfl
  | x :: xs, l, c, hc => by
    simp only [sizeGo]
    split
    · exact .inl rfl
    · split
      · right; omega
      · rcases sizeGo_c xs (l + (kidsM x - 1)) (c + 1) (by omega) with h | h
        · exact .inl h
        · right; omega
theorem scan_some : ∀ (xs : List Nd) (l : Nat) (c n : Int), 1 ≤ l → 0 ≤ c → sizeGo xs l c = n → 0 < n → ∃ f : F, f.ok ∧ f.cnt = l ∧ ∃ ys, xs = f.flat ++ ys ∧ n = c + f.flat.length
  | [], l, c, n, hl, hc, h, hn => by simp [sizeGo] at h; omega
  | x :: xs, l, c, n, hl, hc, h, hn => by
    simp only [sizeGo] at h
    split at h
    · omega
    · next hk =>
      split at h
      · next h0 =>
        refine ⟨.cons x .nil .nil, ⟨by simp [F.cnt]; omega, trivial, trivial⟩, by simp [F.cnt]; omega, xs, by simp [F.flat], by simp [F.flat]; omega⟩
      · next h0 =>
        obtain ⟨k, hk'⟩ := Int.eq_ofNat_of_zero_le (show 0 ≤ kidsM x by omega)
        obtain ⟨f, f1, f2, ys, f3, f4⟩ := scan_some xs (l + k - 1) (c + 1) n (by omega) (by omega) (by rw [← h]; congr 1; omega) hn
        obtain ⟨t1, t2, t3, t4⟩ := F.take_ok k f f1
        obtain ⟨t5, t6⟩ := t4 (by omega)
        refine ⟨.cons x (f.take k) (f.drop k), ⟨by rw [t5]; exact hk', t1, t2⟩, by simp [F.cnt]; omega, ys, by simp [F.flat, f3, ← t3], ?_⟩
        have : f.flat.length = (f.take k).flat.length + (f.drop k).flat.length := by rw [← t3]; simp
        simp [F.flat]; omega

/-- There is a tree at a place. -/
def At (l : List Nd) (i : Nat) (x : Nd) (ks : F) : Prop := (F.cons x ks .nil).ok ∧ ∃ ys, l.drop i = x :: (ks.flat ++ ys)
def F.sz (x : Nd) (ks : F) : Nat := ks.flat.length + 1
theorem At.lt {l : List Nd} {i : Nat} {x : Nd} {ks : F} (h : At l i x ks) : i + (ks.flat.length + 1) ≤ l.length := by
  obtain ⟨_, ys, h⟩ := h
  have := congrArg List.length h
  simp at this
  omega
theorem At.get {l : List Nd} {i : Nat} {x : Nd} {ks : F} (h : At l i x ks) (hi : i < l.length) : l[i] = x := by
  obtain ⟨_, ys, h⟩ := h
  rw [List.drop_eq_getElem_cons hi] at h
  injection h
theorem At.size {l : List Nd} {i : Nat} {x : Nd} {ks : F} (h : At l i x ks) : sizeM l i = ks.flat.length + 1 := by
  have hl := h.lt
  obtain ⟨h1, ys, h2⟩ := h
  have := scan_f _ h1 ys 0 0 (by omega) (by simp [F.cnt])
  simp [F.flat, F.cnt] at this
  rw [sizeM, if_neg (by omega)]
  simp only [Int.toNat_natCast, h2]
  simpa using this
theorem size_at {l : List Nd} {i : Int} (h : sizeM l i ≠ 0) : ∃ (j : Nat) (x : Nd) (ks : F), i = j ∧ At l j x ks := by
  unfold sizeM at h
  split at h
  · exact absurd rfl h
  · next hc =>
    obtain ⟨j, rfl⟩ := Int.eq_ofNat_of_zero_le (show 0 ≤ i by omega)
    rcases sizeGo_c (l.drop (j : Int).toNat) 1 0 (by omega) with h' | h'
    · exact absurd h' h
    · obtain ⟨f, f1, f2, ys, f3, f4⟩ := scan_some _ 1 0 _ (by omega) (by omega) rfl h'
      cases f with
      | nil => simp [F.cnt] at f2
      | cons x ks r =>
        cases r with
        | cons _ _ _ => simp [F.cnt] at f2
        | nil => exact ⟨j, x, ks, rfl, f1, ys, by simpa [F.flat] using f3⟩
theorem sizeM_nonneg (l : List Nd) (i : Int) : 0 ≤ sizeM l i := by
  by_cases h : sizeM l i = 0
  · omega
  · obtain ⟨j, x, ks, rfl, ha⟩ := size_at h
    rw [ha.size]; omega

/-- The places of a row of trees. -/
def F.places : Nat → F → List Nat
  | _, .nil => []
  | p, .cons _ ks r => p :: F.places (p + (ks.flat.length + 1)) r
/-- A row of trees lies at a place. -/
def Lies (l : List Nd) (i : Nat) (f : F) : Prop := f.ok ∧ i + f.flat.length ≤ l.length ∧ ∃ ys, l.drop i = f.flat ++ ys
theorem At.kids {l : List Nd} {i : Nat} {x : Nd} {ks : F} (h : At l i x ks) : Lies l (i + 1) ks := by
  have hl := h.lt
  obtain ⟨⟨_, h1, _⟩, ys, h2⟩ := h
  refine ⟨h1, by omega, ys, ?_⟩
  rw [← List.drop_drop, h2]; rfl
theorem Lies.head {l : List Nd} {i : Nat} {x : Nd} {ks r : F} (h : Lies l i (.cons x ks r)) : At l i x ks ∧ Lies l (i + (ks.flat.length + 1)) r := by
  obtain ⟨⟨h1, h2, h3⟩, h4, ys, h5⟩ := h
  simp [F.flat] at h4 h5
  refine ⟨⟨⟨h1, h2, trivial⟩, r.flat ++ ys, by simpa using h5⟩, h3, by omega, ys, ?_⟩
  rw [← List.drop_drop, h5]
  simp [List.drop_append]

/-! ### depth and length -/
def F.dep : F → Nat
  | .nil => 0
  | .cons _ ks r => max (ks.dep + 1) r.dep
def val (x : Nd) (s : Int) : Int := if x.k = 3 then s else if x.k = 4 then x.n * s else x.n
def F.len : F → Int
  | .nil => 0
  | .cons x ks r => val x ks.len + r.len
theorem kids_n {x : Nd} {k : Nat} (h : kidsM x = k) : 1 ≤ x.n := by
  unfold kidsM at h
  split at h
  · omega
  · omega
theorem F.len_pos : ∀ f : F, f.ok → (f.cnt : Int) ≤ f.len
  | .nil, _ => by simp [F.cnt, F.len]
  | .cons x ks r, ⟨h1, h2, h3⟩ => by
    have i1 := F.len_pos ks h2
    have i2 := F.len_pos r h3
    have hn := kids_n h1
    have : 1 ≤ val x ks.len := by
      unfold val
      split
      · next h =>
        have : kidsM x = x.n := by
          unfold kidsM at h1 ⊢
          split at h1
          · omega
          · next c1 =>
            rw [if_neg c1]
            rw [if_neg (by omega)] at h1 ⊢
            split at h1
            · next c2 => rw [if_pos c2]
            · rw [if_neg (by omega)] at h1; omega
        omega
      · split
        · next h =>
          have : kidsM x = 1 := by
            unfold kidsM at h1 ⊢
            split at h1
            · omega
            · next c1 => rw [if_neg c1, if_neg (by omega), if_neg (by omega), if_pos h]
          have h1' : 1 ≤ ks.len := by omega
          calc (1 : Int) = 1 * 1 := rfl
            _ ≤ x.n * ks.len := Int.mul_le_mul hn h1' (by omega) (by omega)
        · exact hn
    simp only [F.cnt, F.len]
    omega
theorem F.dep_le : ∀ f : F, f.dep ≤ f.flat.length
  | .nil => by simp [F.dep, F.flat]
  | .cons x ks r => by
    have i1 := F.dep_le ks
    have i2 := F.dep_le r
    simp only [F.dep, F.flat, List.length_cons, List.length_append]
    omega
theorem F.cnt_zero {f : F} (h : f.cnt = 0) : f = .nil := by cases f with | nil => rfl | cons => simp [F.cnt] at h
end Go.Nod

set_option linter.unusedVariables false
set_option linter.unusedSimpArgs false
namespace Go.Nod
open Go Go.RowKit Go.Lay

structure Frm where
  x : Nd
  left : Int
  depth : Int
  ticks : Int
def Frm.enc (a : Frm) : List Value := [.int .i64 a.x.k, .int .i64 a.x.p, .int .i64 a.x.n, .int .i64 a.left, .int .i64 a.depth, .int .i64 a.ticks]
def frmK : Kd Frm := flatK 6 Frm.enc (fun _ => rfl) (fun x v hv => by simp [Frm.enc] at hv; rcases hv with rfl | rfl | rfl | rfl | rfl | rfl <;> rfl)
def Frm.tk (a : Frm) : Int := if a.x.k = 4 then min 4097 (a.x.n * a.ticks) else a.ticks
def joinF (a b : Frm) : Frm := ⟨b.x, IntKind.i64.wrap (b.left - 1), if b.depth < IntKind.i64.wrap (a.depth + 1) then IntKind.i64.wrap (a.depth + 1) else b.depth, min 4097 (b.ticks + a.tk)⟩
def pops : List Frm → List Frm
  | a :: b :: s => if a.left = 0 then pops (joinF a b :: s) else a :: b :: s
  | s => s
termination_by s => s.length
theorem pops_cons {a b : Frm} {s : List Frm} (h : a.left = 0) : pops (a :: b :: s) = pops (joinF a b :: s) := by rw [pops, if_pos h]
theorem pops_stop {a : Frm} {s : List Frm} (h : a.left ≠ 0 ∨ s = []) : pops (a :: s) = a :: s := by
  cases s with
  | nil => rw [pops]; simp
  | cons b s =>
    rcases h with h | h
    · rw [pops, if_neg h]
    · cases h
def frm0 (x : Nd) : Frm := ⟨x, kidsM x, 0, if kidsM x = 0 then (if x.n < 4097 then x.n else 4097) else 0⟩
def pushF (st : List Frm) (x : Nd) : List Frm := pops (frm0 x :: st)

theorem wr {n : Int} (h : -9223372036854775808 ≤ n ∧ n ≤ 9223372036854775807) : IntKind.i64.wrap n = n := IntWalk.i64_in n h
theorem kids_zero {x : Nd} (h : kidsM x = 0) : x.k ≠ 3 ∧ x.k ≠ 4 := by
  unfold kidsM at h
  constructor
  · intro hk
    split at h
    · omega
    · next c =>
      rw [if_neg (by omega)] at h
      split at h
      · omega
      · rw [if_neg (by omega)] at h; omega
  · intro hk
    split at h
    · omega
    · split at h
      · omega
      · split at h
        · omega
        · omega
theorem kids_pos {x : Nd} (h : 0 < kidsM x) : x.k = 3 ∨ x.k = 4 := by
  unfold kidsM at h
  split at h
  · omega
  · split at h
    · omega
    · split at h
      · omega
      · split at h <;> omega

set_option maxRecDepth 100000 in
theorem fold_f (f : F) : f.ok → f.flat.length ≤ 1000000000000 → f ≠ .nil → ∀ (t : Frm) (s : List Frm), (f.cnt : Int) ≤ t.left → t.left ≤ 128 → 0 ≤ t.depth → 0 ≤ t.ticks →
    f.flat.foldl pushF (t :: s) = pops (⟨t.x, t.left - f.cnt, max t.depth f.dep, min 4097 (t.ticks + f.len)⟩ :: s) := by
  induction f with
  | nil => intro _ _ h; exact absurd rfl h
  | cons x ks r ih1 ih2 =>
    intro ⟨h1, h2, h3⟩ hlen _ t s hc hm hd ht
    simp only [F.flat, F.cnt, List.length_cons, List.length_append] at hlen hc
    have hkd := F.dep_le ks
    have hkl := F.len_pos ks h2
    have key : ks.flat.foldl pushF (pushF (t :: s) x) = pops (⟨t.x, t.left - 1, max t.depth (ks.dep + 1), min 4097 (t.ticks + val x ks.len)⟩ :: s) := by
      have hl : IntKind.i64.wrap (t.left - 1) = t.left - 1 := wr (by omega)
      by_cases k0 : ks = .nil
      · subst k0
        have z : kidsM x = 0 := by simpa [F.cnt] using h1
        obtain ⟨z1, z2⟩ := kids_zero z
        simp only [F.flat, List.foldl_nil, pushF, frm0, z, if_true]
        rw [pops_cons rfl]
        congr 2
        have e1 : IntKind.i64.wrap (0 + 1) = 1 := by decide
        simp only [joinF, Frm.tk, hl, e1, z2, if_false, F.dep, val, z1]
        congr 1
        · split <;> omega
        · split <;> omega
      · have hp : 1 ≤ ks.cnt := by
          cases ks with
          | nil => exact absurd rfl k0
          | cons _ _ _ => simp [F.cnt]
        have nz : kidsM x ≠ 0 := by omega
        have kb := kidsM_bd x
        have p1 : pushF (t :: s) x = ⟨x, kidsM x, 0, 0⟩ :: t :: s := by
          simp only [pushF, frm0, nz, if_false]
          exact pops_stop (.inl nz)
        rw [p1, ih1 h2 (by omega) k0 _ _ (by simp [h1]) (by simpa using kb.2) (by simp) (by simp)]
        rw [pops_cons (by simp [h1])]
        congr 2
        have hd0 : (0 : Int) + ks.dep ≥ 0 := by omega
        have e1 : IntKind.i64.wrap (max 0 (ks.dep : Int) + 1) = (ks.dep : Int) + 1 := by
          rw [Int.max_eq_right (by omega)]; exact wr (by omega)
        have hn := kids_n h1
        simp only [joinF, Frm.tk, hl, e1]
        congr 1
        · split <;> omega
        · rcases kids_pos (by omega : 0 < kidsM x) with h | h
          · rw [if_neg (by omega), val, if_pos h]; omega
          · rw [if_pos h, val, if_neg (by omega), if_pos h]
            have hmm : min 4097 (x.n * min 4097 (0 + ks.len)) = min 4097 (x.n * ks.len) := by
              rw [Int.zero_add]
              by_cases hs : ks.len ≤ 4097
              · rw [Int.min_eq_right hs]
              · rw [Int.min_eq_left (by omega : (4097 : Int) ≤ ks.len)]
                have a1 : 1 * 4097 ≤ x.n * 4097 := Int.mul_le_mul_of_nonneg_right hn (by omega)
                have a2 : 1 * ks.len ≤ x.n * ks.len := Int.mul_le_mul_of_nonneg_right hn (by omega)
                omega
            rw [hmm]
            omega
    simp only [F.flat, List.foldl_cons, List.foldl_append, key]
    by_cases r0 : r = .nil
    · subst r0
      simp only [F.flat, List.foldl_nil, F.cnt, F.dep, F.len]
      congr 2
      congr 1
      · omega
    · have hp : 1 ≤ r.cnt := by
        cases r with
        | nil => exact absurd rfl r0
        | cons _ _ _ => simp [F.cnt]
      rw [pops_stop (.inl (by simp; omega)), ih2 h3 (by omega) r0 _ _ (by simp; omega) (by simp; omega) (by simp; omega) (by have := F.len_pos ks h2; have : 0 ≤ val x ks.len := by { have := F.len_pos (F.cons x ks .nil) ⟨h1, h2, trivial⟩; simp [F.cnt, F.len] at this; omega }; simp; omega)]
      have := F.len_pos r h3
      simp only [F.cnt, F.dep, F.len]
      congr 2
      congr 1
      · omega
      · omega
      · omega

/-- A whole table, reckoned. -/
theorem fold_whole {x : Nd} {ks : F} (h : (F.cons x ks .nil).ok) (hl : ks.flat.length + 1 ≤ 1000000000000) (z : Nd) :
    (x :: ks.flat).foldl pushF [⟨z, 1, 0, 0⟩] = [⟨z, 0, ks.dep + 1, min 4097 (val x ks.len)⟩] := by
  have := fold_f _ h (by simpa [F.flat] using hl) (by simp) ⟨z, 1, 0, 0⟩ [] (by simp [F.cnt]) (by simp) (by simp) (by simp)
  simp [F.flat, F.cnt, F.dep, F.len] at this
  rw [List.foldl_cons, this, pops_stop (.inr rfl), Int.max_eq_right (by omega)]
/-- What each place of the stack is at all times. -/
def GoodF (a : Frm) : Prop := 0 ≤ a.ticks ∧ a.ticks ≤ 4097 ∧ (a.x.k = 4 → 1 ≤ a.x.n)
theorem tk_good {a : Frm} (h : GoodF a) : 0 ≤ a.tk ∧ a.tk ≤ 4097 := by
  obtain ⟨h1, h2, h3⟩ := h
  unfold Frm.tk
  split
  · next hk =>
    have : 0 ≤ a.x.n * a.ticks := Int.mul_nonneg (by have := h3 hk; omega) h1
    omega
  · exact ⟨h1, h2⟩
theorem join_good {a b : Frm} (h : GoodF a) (k : GoodF b) : GoodF (joinF a b) := by
  have := tk_good h
  refine ⟨?_, ?_, k.2.2⟩
  · simp only [joinF]; have := k.1; omega
  · simp only [joinF]; omega
theorem frm0_good {x : Nd} (h : 1 ≤ x.n) : GoodF (frm0 x) := by
  refine ⟨?_, ?_, fun _ => h⟩
  · simp only [frm0]; split <;> (try split) <;> omega
  · simp only [frm0]; split <;> (try split) <;> omega
end Go.Nod

set_option linter.unusedVariables false
set_option linter.unusedSimpArgs false
namespace Go.Proofs.Ytggkeldedennfaa
open Go Go.RowKit Go.Lay

theorem w64 {n : Int} (h : -9223372036854775808 ≤ n ∧ n ≤ 9223372036854775807) : IntKind.i64.wrap n = n := IntWalk.i64_in n h
@[simp] theorem w0 : IntKind.i64.wrap 0 = 0 := by decide
@[simp] theorem w1 : IntKind.i64.wrap 1 = 1 := by decide

set_option maxRecDepth 100000 in
theorem within_ok (n lo hi : Int) (α : AH) (h1 : -1000000000000 ≤ lo) (h2 : lo ≤ hi) (h3 : hi ≤ 1000000000000) :
    NCalls Try.prog 20 [.int .i64 n, .int .i64 lo, .int .i64 hi] α (fun v α' => ∃ r, v = .int .i64 r ∧ lo ≤ r ∧ r ≤ hi ∧ (lo ≤ n → n ≤ hi → r = n) ∧ α' = α) := by
  refine ncalls_of (by kernel_rfl) Try.func20 rfl (by rw [Try.ntmps20]; simp) ?_
  rw [Try.ntmps20, Try.results20]
  have e1 : IntKind.i64.wrap (hi - lo) = hi - lo := w64 (by omega)
  have e2 : IntKind.i64.wrap (hi - lo + 1) = hi - lo + 1 := w64 (by omega)
  have b1 := Int.tmod_lt_of_pos n (show 0 < hi - lo + 1 by omega)
  have b2 : -(hi - lo + 1) < n.tmod (hi - lo + 1) := by exact Int.lt_tmod_of_pos n (show 0 < hi - lo + 1 by omega)
  have nz : ¬ (hi - lo + 1 = 0) := by omega
  generalize hr : n.tmod (hi - lo + 1) = r at *
  have e3 : IntKind.i64.wrap (r + hi) = r + hi := w64 (by omega)
  have e4 : IntKind.i64.wrap (r + hi - lo) = r + hi - lo := w64 (by omega)
  have e5 : IntKind.i64.wrap (r + hi - lo + 1) = r + hi - lo + 1 := w64 (by omega)
  have e6 : IntKind.i64.wrap (lo + (r + hi - lo + 1)) = lo + (r + hi - lo + 1) := w64 (by omega)
  have rest : ¬ (lo ≤ n ∧ n ≤ hi) → ∃ q, (if r < 0 then lo + (r + hi - lo + 1) else lo + r) = q ∧ lo ≤ q ∧ q ≤ hi ∧ (lo ≤ n → n ≤ hi → q = n) := fun hn =>
    ⟨_, rfl, by split <;> omega, by split <;> omega, fun a b => absurd ⟨a, b⟩ hn⟩
  by_cases c1 : lo ≤ n
  · by_cases c2 : n ≤ hi
    ·
      repeat (first
        | (refine nw_seq (nw_region fun K hK => ?_); simp [c1, c2]; refine hK _ _ ?_; clear hK K)
        | (refine nw_region fun K hK => ?_; simp [c1, c2]; refine hK _ _ ?_; clear hK K)
        | refine nw_seq ?_
        | refine nw_block ?_
        | (refine nw_yes ?_ ?_; focus (simp [c1, c2]; done))
        | (refine nw_no ?_ ?_; focus (simp [c1, c2]; done))
        | refine nw_skip ?_
        | refine nw_exit ?_
        | refine nw_ret ?_)
      simp [c1, c2]
    · obtain ⟨q, hq, hq2⟩ := rest (by omega)
      by_cases c3 : r < 0
      ·
        repeat (first
          | (refine nw_seq (nw_region fun K hK => ?_); simp [c1, c2, c3, e1, e2, e3, e4, e5, e6, nz, hr]; refine hK _ _ ?_; clear hK K)
          | (refine nw_region fun K hK => ?_; simp [c1, c2, c3, e1, e2, e3, e4, e5, e6, nz, hr]; refine hK _ _ ?_; clear hK K)
          | refine nw_seq ?_
          | refine nw_block ?_
          | (refine nw_yes ?_ ?_; focus (simp [c1, c2, c3, e1, e2, e3, e4, e5, e6, nz, hr]; done))
          | (refine nw_no ?_ ?_; focus (simp [c1, c2, c3, e1, e2, e3, e4, e5, e6, nz, hr]; done))
          | refine nw_skip ?_
          | refine nw_exit ?_
          | refine nw_ret ?_)
        simp [c3] at hq
        simp [hq, hq2]
        omega
      · have e7 : IntKind.i64.wrap (lo + r) = lo + r := w64 (by omega)
        repeat (first
          | (refine nw_seq (nw_region fun K hK => ?_); simp [c1, c2, c3, e1, e2, e7, nz, hr]; refine hK _ _ ?_; clear hK K)
          | (refine nw_region fun K hK => ?_; simp [c1, c2, c3, e1, e2, e7, nz, hr]; refine hK _ _ ?_; clear hK K)
          | refine nw_seq ?_
          | refine nw_block ?_
          | (refine nw_yes ?_ ?_; focus (simp [c1, c2, c3, e1, e2, e7, nz, hr]; done))
          | (refine nw_no ?_ ?_; focus (simp [c1, c2, c3, e1, e2, e7, nz, hr]; done))
          | refine nw_skip ?_
          | refine nw_exit ?_
          | refine nw_ret ?_)
        simp [c3] at hq
        simp [hq, hq2]
        omega
  · obtain ⟨q, hq, hq2⟩ := rest (by omega)
    by_cases c3 : r < 0
    ·
      repeat (first
        | (refine nw_seq (nw_region fun K hK => ?_); simp [c1, c3, e1, e2, e3, e4, e5, e6, nz, hr]; refine hK _ _ ?_; clear hK K)
        | (refine nw_region fun K hK => ?_; simp [c1, c3, e1, e2, e3, e4, e5, e6, nz, hr]; refine hK _ _ ?_; clear hK K)
        | refine nw_seq ?_
        | refine nw_block ?_
        | (refine nw_yes ?_ ?_; focus (simp [c1, c3, e1, e2, e3, e4, e5, e6, nz, hr]; done))
        | (refine nw_no ?_ ?_; focus (simp [c1, c3, e1, e2, e3, e4, e5, e6, nz, hr]; done))
        | refine nw_skip ?_
        | refine nw_exit ?_
        | refine nw_ret ?_)
      simp [c3] at hq
      simp [hq, hq2]
      omega
    · have e7 : IntKind.i64.wrap (lo + r) = lo + r := w64 (by omega)
      repeat (first
        | (refine nw_seq (nw_region fun K hK => ?_); simp [c1, c3, e1, e2, e7, nz, hr]; refine hK _ _ ?_; clear hK K)
        | (refine nw_region fun K hK => ?_; simp [c1, c3, e1, e2, e7, nz, hr]; refine hK _ _ ?_; clear hK K)
        | refine nw_seq ?_
        | refine nw_block ?_
        | (refine nw_yes ?_ ?_; focus (simp [c1, c3, e1, e2, e7, nz, hr]; done))
        | (refine nw_no ?_ ?_; focus (simp [c1, c3, e1, e2, e7, nz, hr]; done))
        | refine nw_skip ?_
        | refine nw_exit ?_
        | refine nw_ret ?_)
      simp [c3] at hq
      simp [hq, hq2]
      omega

/-- All but one block is as it was. -/
structure FrX (id : Nat) (α α' : AH) : Prop where
  n : α.n ≤ α'.n
  get : ∀ i, i < α.n → i ≠ id → α'.get i = α.get i
theorem FrX.refl (id : Nat) (α : AH) : FrX id α α := ⟨Nat.le_refl _, fun _ _ _ => rfl⟩
theorem FrX.trans {id : Nat} {a b c : AH} (h : FrX id a b) (k : FrX id b c) : FrX id a c := ⟨Nat.le_trans h.n k.n, fun i hi hne => (k.get i (Nat.lt_of_lt_of_le hi h.n) hne).trans (h.get i hi hne)⟩
theorem FrX.of_fr {id : Nat} {a b : AH} (h : Fr a.n a b) : FrX id a b := ⟨h.n, fun i hi _ => h.get i hi⟩
theorem FrX.alloc {id : Nat} {a b : AH} (h : FrX id a b) (c : ABlk) : FrX id a (b.alloc c) := ⟨Nat.le_succ_of_le h.n, fun i hi hne => by rw [AH.alloc_get_ne _ _ (by have := h.n; omega)]; exact h.get i hi hne⟩
/-- A slice whose elements are of another type than the block that changes. -/
theorem Sl.frx {τ : Type} {e e' : TypeId} {K : Kd τ} {α α' : AH} {v : Value} {xs : List τ} {id : Nat} {b : ABlk} (h : Sl e K α v xs) (hf : FrX id α α') (hb : α.get id = some b) (he : b.elem = e') (hne : e ≠ e')
    (hk : ∀ x c, K.R α x c → K.R α' x c) : Sl e K α' v xs := by
  rcases h with h | ⟨i, off, c, b', h1, h2, h3, h4, h5, h6⟩
  · exact .inl h
  · have hi : i ≠ id := fun hi => by subst hi; rw [hb] at h3; injection h3 with h3; subst h3; exact hne (h4.symm.trans he)
    exact .inr ⟨i, off, c, b', h1, Nat.lt_of_lt_of_le h2 hf.n, by rw [hf.get i h2 hi]; exact h3, h4, h5, fun j hj => hk _ _ (h6 j hj)⟩

/-- A tape in memory. -/
def IsTape (α : AH) (id : Nat) (L : List Int) (at_ : Int) : Prop :=
  L.length ≤ 1000000000000000 ∧ 0 ≤ at_ ∧ at_ ≤ L.length ∧ id < α.n ∧ ∃ vL, α.get id = some ⟨[vL, .int .i64 at_], 31, true⟩ ∧ Sl 3 (intK .i64) α vL L
theorem IsTape.fr {α α' : AH} {id : Nat} {L : List Int} {at_ : Int} (h : IsTape α id L at_) (hf : Fr α.n α α') : IsTape α' id L at_ := by
  obtain ⟨h1, h2, h3, h4, vL, h5, h6⟩ := h
  exact ⟨h1, h2, h3, Nat.lt_of_lt_of_le h4 hf.n, vL, by rw [hf.get id h4]; exact h5, h6.fr hf⟩
/-- What the tape's own functions leave: the tape further on, all else as it was. -/
def TapeOn (α : AH) (id : Nat) (L : List Int) (α' : AH) : Prop := FrX id α α' ∧ ∃ at_, IsTape α' id L at_
theorem TapeOn.trans {α β γ : AH} {id : Nat} {L : List Int} (h : TapeOn α id L β) (k : TapeOn β id L γ) : TapeOn α id L γ := ⟨h.1.trans k.1, k.2⟩
theorem TapeOn.fr {α β γ : AH} {id : Nat} {L : List Int} (h : TapeOn α id L β) (k : Fr β.n β γ) : TapeOn α id L γ := by
  obtain ⟨h1, a, h2⟩ := h
  exact ⟨h1.trans (.of_fr k), a, h2.fr k⟩
theorem IsTape.on {α : AH} {id : Nat} {L : List Int} {at_ : Int} (h : IsTape α id L at_) : TapeOn α id L α := ⟨.refl _ _, at_, h⟩

set_option maxRecDepth 100000 in
theorem next_ok (L : List Int) (at_ n : Int) (id : Nat) (α : AH) (h : IsTape α id L at_) :
    NCalls Try.prog 33 [.pointer (some ⟨id, 0, none⟩), .int .i64 n] α (fun v α' => ∃ r, v = .int .i64 r ∧ 0 ≤ r ∧ (1 ≤ n → r < n) ∧ TapeOn α id L α') := by
  have h' := h
  obtain ⟨h1, h2, h3, h4, vL, h5, h6⟩ := h
  obtain ⟨i0, off, hlen, hidx, hld⟩ := h6.rd (t := 28) Try.underlying28 sz3
  obtain ⟨k, rfl⟩ := Int.eq_ofNat_of_zero_le h2
  refine ncalls_of (by kernel_rfl) Try.func33 rfl (by rw [Try.ntmps33]; simp) ?_
  rw [Try.ntmps33, Try.results33]
  repeat (first
    | (refine nw_seq (nw_region fun K hK => ?_); simp [h5]; refine hK _ _ ?_; clear hK K)
    | (refine nw_region fun K hK => ?_; simp [h5]; refine hK _ _ ?_; clear hK K)
    | refine nw_seq ?_
    | refine nw_block ?_
    | (refine nw_yes ?_ ?_; focus (simp [h5]; done))
    | (refine nw_no ?_ ?_; focus (simp [h5]; done))
    | refine nw_skip ?_
    | refine nw_exit ?_
    | refine nw_ret ?_)
  by_cases c1 : L.length ≤ k
  · have c1' : (L.length : Int) ≤ k := by omega
    refine nw_draw (.take 0 (.take 1 (.take 2 (.take 3 (.take 4 (.take 5 (.take 6 (.take 7 (.take 8 (.take 9 (.take 10 (.take 11 (.take 12 (.take 13 (.done))))))))))))))) mixd (by kernel_rfl) fun K hK => ?_
    simp [h5, hlen, c1, c1']
    refine hK _ _ ?_
    clear hK K
    repeat (first
      | (refine nw_seq (nw_region fun K hK => ?_); simp [h5]; refine hK _ _ ?_; clear hK K)
      | (refine nw_region fun K hK => ?_; simp [h5]; refine hK _ _ ?_; clear hK K)
      | refine nw_seq ?_
      | refine nw_block ?_
      | (refine nw_yes ?_ ?_; focus (simp [h5]; done))
      | (refine nw_no ?_ ?_; focus (simp [h5]; done))
      | refine nw_skip ?_
      | refine nw_exit ?_
      | refine nw_ret ?_)
    simp
    exact ⟨fun _ => by omega, h'.on⟩
  have c1' : k < L.length := by omega
  by_cases c2 : n < 1
  ·
    refine nw_draw (.take 0 (.take 1 (.take 2 (.take 3 (.take 4 (.take 5 (.take 6 (.take 7 (.take 8 (.take 9 (.take 10 (.take 11 (.take 12 (.take 13 (.done))))))))))))))) mixd (by kernel_rfl) fun K hK => ?_
    simp [h5, hlen, c1, c1', c2]
    refine hK _ _ ?_
    clear hK K
    repeat (first
      | (refine nw_seq (nw_region fun K hK => ?_); simp [h5]; refine hK _ _ ?_; clear hK K)
      | (refine nw_region fun K hK => ?_; simp [h5]; refine hK _ _ ?_; clear hK K)
      | refine nw_seq ?_
      | refine nw_block ?_
      | (refine nw_yes ?_ ?_; focus (simp [h5]; done))
      | (refine nw_no ?_ ?_; focus (simp [h5]; done))
      | refine nw_skip ?_
      | refine nw_exit ?_
      | refine nw_ret ?_)
    simp
    exact ⟨fun _ => by omega, h'.on⟩
  refine nw_draw (.take 0 (.take 1 (.take 2 (.take 3 (.take 4 (.take 5 (.take 6 (.take 7 (.take 8 (.take 9 (.take 10 (.take 11 (.take 12 (.take 13 (.done))))))))))))))) mixd (by kernel_rfl) fun K hK => ?_
  simp [h5, hlen, c1, c1', c2]
  refine hK _ _ ?_
  clear hK K
  have e1 : IntKind.i64.wrap ((k : Int) + 1) = (k : Int) + 1 := w64 (by omega)
  have e2 : IntKind.i64.wrap (k : Int) = (k : Int) := w64 (by omega)
  repeat (first
    | (refine nw_seq (nw_region fun K hK => ?_); simp [h5, e1]; refine hK _ _ ?_; clear hK K)
    | (refine nw_region fun K hK => ?_; simp [h5, e1]; refine hK _ _ ?_; clear hK K)
    | refine nw_seq ?_
    | refine nw_block ?_
    | (refine nw_yes ?_ ?_; focus (simp [h5, e1]; done))
    | (refine nw_no ?_ ?_; focus (simp [h5, e1]; done))
    | refine nw_skip ?_
    | refine nw_exit ?_
    | refine nw_ret ?_)
  have hS : Sl 3 (intK .i64) (α.set id (some ⟨[vL, .int .i64 ((k : Int) + 1)], 31, true⟩)) vL L := h6.set h5 rfl (show (3 : Nat) ≠ 31 by decide) (intK_apart _ _) _
  obtain ⟨j0, off', -, hidx', hld'⟩ := hS.rd (t := 28) Try.underlying28 sz3
  obtain ⟨b, hb1, hb2, hb3⟩ := hld' _ (.refl _ _) k c1'
  have hx : b.cells[off' + k * (intK .i64).sz]? = some (.int .i64 L[k]) := by have := take_get (j := 0) hb3 (by simp); simpa using this
  refine nw_draw (.take 0 (.take 1 (.take 2 (.take 3 (.take 4 (.take 5 (.take 6 (.take 7 (.take 8 (.take 9 (.take 10 (.take 12 (.pick (.cons 11 (.take 13 (.take 14 (.done))) .nil)))))))))))))) mixd (by kernel_rfl) fun K hK => ?_
  simp [h5, e1, e2, hidx' .i64 k c1', hb1, hx]
  refine (within_ok _ 0 1073741824 _ (by omega) (by omega) (by omega)).mono fun r β hr => ?_
  obtain ⟨q, rfl, q1, q2, -, rfl⟩ := hr
  have nz : ¬ (n = 0) := by omega
  have m1 : 0 ≤ q.tmod n := Int.tmod_nonneg _ q1
  have m2 : q.tmod n < n := Int.tmod_lt_of_pos q (by omega)
  have e3 : IntKind.i64.wrap (q.tmod n) = q.tmod n := by
    have : q.tmod n ≤ q := by
      obtain ⟨a, rfl⟩ := Int.eq_ofNat_of_zero_le q1
      obtain ⟨c, rfl⟩ := Int.eq_ofNat_of_zero_le (show 0 ≤ n by omega)
      exact Int.ofNat_le.2 (Nat.mod_le a c)
    exact w64 (by omega)
  simp [contK, nz, e3]
  refine hK _ _ ?_
  clear hK K
  repeat (first
    | (refine nw_seq (nw_region fun K hK => ?_); simp [h5]; refine hK _ _ ?_; clear hK K)
    | (refine nw_region fun K hK => ?_; simp [h5]; refine hK _ _ ?_; clear hK K)
    | refine nw_seq ?_
    | refine nw_block ?_
    | (refine nw_yes ?_ ?_; focus (simp [h5]; done))
    | (refine nw_no ?_ ?_; focus (simp [h5]; done))
    | refine nw_skip ?_
    | refine nw_exit ?_
    | refine nw_ret ?_)
  simp
  refine ⟨m1, fun _ => m2, ⟨Nat.le_refl _, fun i _ hne => AH.set_get_ne _ _ hne⟩, (k : Int) + 1, h1, by omega, by omega, h4, vL, AH.set_get _ _ _, hS⟩
end Go.Proofs.Ytggkeldedennfaa

set_option linter.unusedVariables false
set_option linter.unusedSimpArgs false
namespace Go.Proofs.Ytggkeldedennfaa
open Go Go.RowKit Go.Lay Go.Nod



set_option maxHeartbeats 1000000 in
theorem kids_ok (x : Nd) (α : AH) :
    NCalls Try.prog 52 [.agg #[.int .i64 x.k, .int .i64 x.p, .int .i64 x.n]] α (fun v α' => v = .int .i64 (kidsM x) ∧ Fr α.n α α') := by
  obtain ⟨k, p, n⟩ := x
  have hfr : ∀ b, Fr α.n α (α.alloc b) := fun b => (Fr.refl _ _).alloc (Nat.le_refl _) b
  refine ncalls_of (by kernel_rfl) Try.func52 rfl (by rw [Try.ntmps52]; simp) ?_
  rw [Try.ntmps52, Try.results52]
  by_cases c1 : n < 1 <;> by_cases c2 : k = 1 <;> by_cases c3 : p = 0 <;> by_cases c4 : k = 2 <;> by_cases c5 : k = 3 <;> by_cases c6 : k = 4 <;> by_cases c7 : 0 ≤ p <;> by_cases c8 : p < 6 <;> by_cases c9 : n ≤ 128 <;> first | (exfalso; omega) | skip
  all_goals
    repeat (first
      | (refine nw_seq (nw_region fun K hK => ?_); simp [c1, c2, c3, c4, c5, c6, c7, c8, c9]; refine hK _ _ ?_; clear hK K)
      | (refine nw_region fun K hK => ?_; simp [c1, c2, c3, c4, c5, c6, c7, c8, c9]; refine hK _ _ ?_; clear hK K)
      | refine nw_seq ?_
      | refine nw_block ?_
      | (refine nw_yes ?_ ?_; focus (simp [c1, c2, c3, c4, c5, c6, c7, c8, c9]; done))
      | (refine nw_no ?_ ?_; focus (simp [c1, c2, c3, c4, c5, c6, c7, c8, c9]; done))
      | refine nw_skip ?_
      | refine nw_exit ?_
      | refine nw_ret ?_)
  all_goals (simp [kidsM, c1, c2, c3, c4, c5, c6, c7, c8, c9]; try exact hfr _)

set_option maxRecDepth 100000 in
set_option maxHeartbeats 1000000 in
theorem size_ok (xs : List Nd) (at_ : Int) (α : AH) (v : Value) (h : Sl 55 nodeK α v xs) (hl : xs.length ≤ 1000000000000) :
    NCalls Try.prog 30 [v, .int .i64 at_] α (fun r α' => r = .int .i64 (sizeM xs at_) ∧ Fr α.n α α') := by
  obtain ⟨id, off, hlen, hidx, hld⟩ := h.rd (t := 49) Try.underlying49 sz55
  refine ncalls_of (by kernel_rfl) Try.func30 rfl (by rw [Try.ntmps30]; simp) ?_
  rw [Try.ntmps30, Try.results30]
  by_cases c1 : at_ < 0
  ·
    repeat (first
      | (refine nw_seq (nw_region fun K hK => ?_); simp [hlen, c1]; refine hK _ _ ?_; clear hK K)
      | (refine nw_region fun K hK => ?_; simp [hlen, c1]; refine hK _ _ ?_; clear hK K)
      | refine nw_seq ?_
      | refine nw_block ?_
      | (refine nw_yes ?_ ?_; focus (simp [hlen, c1]; done))
      | (refine nw_no ?_ ?_; focus (simp [hlen, c1]; done))
      | refine nw_skip ?_
      | refine nw_exit ?_
      | refine nw_ret ?_)
    simp [sizeM, c1, Fr.refl]
  by_cases c2 : (xs.length : Int) ≤ at_
  · have c1' : 0 ≤ at_ := by omega
    repeat (first
      | (refine nw_seq (nw_region fun K hK => ?_); simp [hlen, c1, c2, c1']; refine hK _ _ ?_; clear hK K)
      | (refine nw_region fun K hK => ?_; simp [hlen, c1, c2, c1']; refine hK _ _ ?_; clear hK K)
      | refine nw_seq ?_
      | refine nw_block ?_
      | (refine nw_yes ?_ ?_; focus (simp [hlen, c1, c2, c1']; done))
      | (refine nw_no ?_ ?_; focus (simp [hlen, c1, c2, c1']; done))
      | refine nw_skip ?_
      | refine nw_exit ?_
      | refine nw_ret ?_)
    simp [sizeM, c1, c2, Fr.refl]
  have c1' : 0 ≤ at_ := by omega
  have c2' : at_ < xs.length := by omega
  repeat (first
    | (refine nw_seq (nw_region fun K hK => ?_); simp [hlen, c1, c2, c1', c2']; refine hK _ _ ?_; clear hK K)
    | (refine nw_region fun K hK => ?_; simp [hlen, c1, c2, c1', c2']; refine hK _ _ ?_; clear hK K)
    | refine nw_seq ?_
    | refine nw_block ?_
    | (refine nw_yes ?_ ?_; focus (simp [hlen, c1, c2, c1', c2']; done))
    | (refine nw_no ?_ ?_; focus (simp [hlen, c1, c2, c1', c2']; done))
    | refine nw_skip ?_
    | refine nw_exit ?_
    | refine nw_ret ?_)
  have hk3 : nodeK.sz = 3 := rfl
  rw [hk3] at hidx hld
  refine nw_loop (fun n s α' => ∃ (i : Nat) (left : Int), n = xs.length - i ∧ i ≤ xs.length ∧ at_ ≤ i ∧ s 0 = v ∧ s 1 = .int .i64 at_ ∧ s 5 = .int .i64 left ∧ s 6 = .int .i64 (i : Int) ∧ Fr α.n α α' ∧ 1 ≤ left ∧ left ≤ 1 + 128 * i ∧ sizeM xs at_ = sizeGo (xs.drop i) left (i - at_))
    (xs.length - at_.toNat) ⟨at_.toNat, 1, rfl, by omega, by omega, by simp, by simp, by simp, by simp; omega, .refl _ _, by omega, by omega, ?_⟩ ?_
  · rw [sizeM, if_neg (by omega)]; congr 1; omega
  rintro n s α' ⟨i, left, rfl, hi, ha, s0, s1, s5, s6, hf, hb1, hb2, hm⟩
  by_cases c3 : i < xs.length
  · obtain ⟨b, hb, hfit, hR⟩ := hld α' hf i c3
    have hR : (b.cells.drop (off + i * 3)).take 3 = xs[i].enc := hR
    have hix := hidx .i64 i c3
    have hk := kidsM_bd xs[i]
    have e1 : IntKind.i64.wrap (kidsM xs[i] - 1) = kidsM xs[i] - 1 := w64 (by omega)
    have e2 : IntKind.i64.wrap (left + (kidsM xs[i] - 1)) = left + (kidsM xs[i] - 1) := w64 (by omega)
    have e3 : IntKind.i64.wrap ((i : Int) + 1) = (i : Int) + 1 := w64 (by omega)
    have e4 : IntKind.i64.wrap ((i : Int) + 1 - at_) = (i : Int) + 1 - at_ := w64 (by omega)
    have hgo : sizeGo (xs.drop i) left (i - at_) = if kidsM xs[i] < 0 then 0 else if left + (kidsM xs[i] - 1) = 0 then i - at_ + 1 else sizeGo (xs.drop (i + 1)) (left + (kidsM xs[i] - 1)) (i - at_ + 1) := by
      rw [List.drop_eq_getElem_cons c3, sizeGo]
    repeat (first
      | (refine nw_seq (nw_region fun K hK => ?_); simp [s0, s6, hlen, c3]; refine hK _ _ ?_; clear hK K)
      | (refine nw_region fun K hK => ?_; simp [s0, s6, hlen, c3]; refine hK _ _ ?_; clear hK K)
      | refine nw_seq ?_
      | refine nw_block ?_
      | (refine nw_yes ?_ ?_; focus (simp [s0, s6, hlen, c3]; done))
      | (refine nw_no ?_ ?_; focus (simp [s0, s6, hlen, c3]; done))
      | refine nw_skip ?_
      | refine nw_exit ?_
      | refine nw_ret ?_)
    refine nw_region fun K hK => ?_
    simp [s0, s6, hix, hb, hfit, hR, Nd.enc]
    refine (kids_ok _ _).mono fun r β hr => ?_
    obtain ⟨rfl, hfb'⟩ := hr
    have hfb := Fr.up hf hfb'
    simp [contK, ]
    refine hK _ _ ?_
    clear hK K
    generalize kidsM xs[i] = kk at *
    by_cases c4 : kk < 0
    ·
      repeat (first
        | (refine nw_seq (nw_region fun K hK => ?_); simp [c4]; refine hK _ _ ?_; clear hK K)
        | (refine nw_region fun K hK => ?_; simp [c4]; refine hK _ _ ?_; clear hK K)
        | refine nw_seq ?_
        | refine nw_block ?_
        | (refine nw_yes ?_ ?_; focus (simp [c4]; done))
        | (refine nw_no ?_ ?_; focus (simp [c4]; done))
        | refine nw_skip ?_
        | refine nw_exit ?_
        | refine nw_ret ?_)
      simp [hm, hgo, c4, hfb]
    by_cases c5 : left + (kk - 1) = 0
    ·
      repeat (first
        | (refine nw_seq (nw_region fun K hK => ?_); simp [c4, c5, s1, s5, s6, e1, e2, e3, e4]; refine hK _ _ ?_; clear hK K)
        | (refine nw_region fun K hK => ?_; simp [c4, c5, s1, s5, s6, e1, e2, e3, e4]; refine hK _ _ ?_; clear hK K)
        | refine nw_seq ?_
        | refine nw_block ?_
        | (refine nw_yes ?_ ?_; focus (simp [c4, c5, s1, s5, s6, e1, e2, e3, e4]; done))
        | (refine nw_no ?_ ?_; focus (simp [c4, c5, s1, s5, s6, e1, e2, e3, e4]; done))
        | refine nw_skip ?_
        | refine nw_exit ?_
        | refine nw_ret ?_)
      simp [hfb]
      rw [hm, hgo, if_neg c4, if_pos c5]
      omega
    ·
      repeat (first
        | (refine nw_seq (nw_region fun K hK => ?_); simp [c4, c5, s1, s5, s6, e1, e2, e3, e4]; refine hK _ _ ?_; clear hK K)
        | (refine nw_region fun K hK => ?_; simp [c4, c5, s1, s5, s6, e1, e2, e3, e4]; refine hK _ _ ?_; clear hK K)
        | refine nw_seq ?_
        | refine nw_block ?_
        | (refine nw_yes ?_ ?_; focus (simp [c4, c5, s1, s5, s6, e1, e2, e3, e4]; done))
        | (refine nw_no ?_ ?_; focus (simp [c4, c5, s1, s5, s6, e1, e2, e3, e4]; done))
        | refine nw_skip ?_
        | refine nw_exit ?_
        | refine nw_ret ?_)
      refine ⟨xs.length - (i + 1), by omega, i + 1, left + (kk - 1), rfl, by omega, by omega, ?_⟩
      simp [s0, s1, s5, s6, e1, e2, e3, e4, hfb]
      refine ⟨by omega, by omega, ?_⟩
      rw [hm, hgo, if_neg c4, if_neg c5]
      congr 1
      omega
  · have : i = xs.length := by omega
    repeat (first
      | (refine nw_seq (nw_region fun K hK => ?_); simp [s0, s6, hlen, c3]; refine hK _ _ ?_; clear hK K)
      | (refine nw_region fun K hK => ?_; simp [s0, s6, hlen, c3]; refine hK _ _ ?_; clear hK K)
      | refine nw_seq ?_
      | refine nw_block ?_
      | (refine nw_yes ?_ ?_; focus (simp [s0, s6, hlen, c3]; done))
      | (refine nw_no ?_ ?_; focus (simp [s0, s6, hlen, c3]; done))
      | refine nw_skip ?_
      | refine nw_exit ?_
      | refine nw_ret ?_)
    simp [hm, this, sizeGo, hf]
end Go.Proofs.Ytggkeldedennfaa

set_option linter.unusedVariables false
set_option linter.unusedSimpArgs false
namespace Go.Proofs.Ytggkeldedennfaa
open Go Go.RowKit Go.Lay Go.Nod

abbrev Nodes (α : AH) (v : Value) (xs : List Nd) : Prop := Sl 55 nodeK α v xs

set_option maxRecDepth 100000 in
theorem add_ok (a b : Int) (α : AH) (ha : 0 ≤ a) (hb : 0 ≤ b) (ha' : a ≤ 4097) : NCalls Try.prog 66 [.int .i64 a, .int .i64 b] α (fun v α' => v = .int .i64 (min 4097 (a + b)) ∧ α' = α) := by
  refine ncalls_of (by kernel_rfl) Try.func66 rfl (by rw [Try.ntmps66]; simp) ?_
  rw [Try.ntmps66, Try.results66]
  by_cases c1 : b < 4097
  ·
    have e1 : IntKind.i64.wrap (a + b) = a + b := w64 (by omega)
    by_cases c2 : a + b < 4097
    ·
      repeat (first
        | (refine nw_seq (nw_region fun K hK => ?_); simp [c1, c2, e1]; refine hK _ _ ?_; clear hK K)
        | (refine nw_region fun K hK => ?_; simp [c1, c2, e1]; refine hK _ _ ?_; clear hK K)
        | refine nw_seq ?_
        | refine nw_block ?_
        | (refine nw_yes ?_ ?_; focus (simp [c1, c2, e1]; done))
        | (refine nw_no ?_ ?_; focus (simp [c1, c2, e1]; done))
        | refine nw_skip ?_
        | refine nw_exit ?_
        | refine nw_ret ?_)
      simp
      omega
    ·
      repeat (first
        | (refine nw_seq (nw_region fun K hK => ?_); simp [c1, c2, e1]; refine hK _ _ ?_; clear hK K)
        | (refine nw_region fun K hK => ?_; simp [c1, c2, e1]; refine hK _ _ ?_; clear hK K)
        | refine nw_seq ?_
        | refine nw_block ?_
        | (refine nw_yes ?_ ?_; focus (simp [c1, c2, e1]; done))
        | (refine nw_no ?_ ?_; focus (simp [c1, c2, e1]; done))
        | refine nw_skip ?_
        | refine nw_exit ?_
        | refine nw_ret ?_)
      simp
      omega
  ·
    have e1 : IntKind.i64.wrap (a + 4097) = a + 4097 := w64 (by omega)
    by_cases c2 : a + 4097 < 4097
    ·
      repeat (first
        | (refine nw_seq (nw_region fun K hK => ?_); simp [c1, c2, e1]; refine hK _ _ ?_; clear hK K)
        | (refine nw_region fun K hK => ?_; simp [c1, c2, e1]; refine hK _ _ ?_; clear hK K)
        | refine nw_seq ?_
        | refine nw_block ?_
        | (refine nw_yes ?_ ?_; focus (simp [c1, c2, e1]; done))
        | (refine nw_no ?_ ?_; focus (simp [c1, c2, e1]; done))
        | refine nw_skip ?_
        | refine nw_exit ?_
        | refine nw_ret ?_)
      simp
      omega
    ·
      repeat (first
        | (refine nw_seq (nw_region fun K hK => ?_); simp [c1, c2, e1]; refine hK _ _ ?_; clear hK K)
        | (refine nw_region fun K hK => ?_; simp [c1, c2, e1]; refine hK _ _ ?_; clear hK K)
        | refine nw_seq ?_
        | refine nw_block ?_
        | (refine nw_yes ?_ ?_; focus (simp [c1, c2, e1]; done))
        | (refine nw_no ?_ ?_; focus (simp [c1, c2, e1]; done))
        | refine nw_skip ?_
        | refine nw_exit ?_
        | refine nw_ret ?_)
      simp
      omega

theorem min_mul (n s : Int) (h1 : 1 ≤ n) (h2 : 0 ≤ s) : min 4097 (min 4097 n * min 4097 s) = min 4097 (n * s) := by
  by_cases hs : s = 0
  · subst hs; rw [Int.mul_zero, show min (4097 : Int) 0 = 0 from by decide, Int.mul_zero]; decide
  by_cases hn : n ≤ 4097
  · rw [Int.min_eq_right hn]
    by_cases hs' : s ≤ 4097
    · rw [Int.min_eq_right hs']
    · rw [Int.min_eq_left (by omega : (4097 : Int) ≤ s)]
      have a1 : 1 * 4097 ≤ n * 4097 := Int.mul_le_mul_of_nonneg_right h1 (by omega)
      have a2 : 1 * s ≤ n * s := Int.mul_le_mul_of_nonneg_right h1 (by omega)
      omega
  · rw [Int.min_eq_left (by omega : (4097 : Int) ≤ n)]
    have a1 : 4097 * 1 ≤ 4097 * min 4097 s := Int.mul_le_mul_of_nonneg_left (by omega) (by omega)
    have a2 : n * 1 ≤ n * s := Int.mul_le_mul_of_nonneg_left (by omega) (by omega)
    omega

set_option maxRecDepth 100000 in
theorem times_ok (n s : Int) (α : AH) (h1 : 1 ≤ n) (h2 : 0 ≤ s) (h3 : s ≤ 4097) : NCalls Try.prog 65 [.int .i64 n, .int .i64 s] α (fun v α' => v = .int .i64 (min 4097 (n * s)) ∧ α' = α) := by
  have hm := min_mul n s h1 h2
  rw [Int.min_eq_right h3] at hm
  refine ncalls_of (by kernel_rfl) Try.func65 rfl (by rw [Try.ntmps65]; simp) ?_
  rw [Try.ntmps65, Try.results65]
  have b2 : 0 ≤ min 4097 n * s := Int.mul_nonneg (by omega) h2
  have b3 : min 4097 n * s ≤ 4097 * 4097 := Int.mul_le_mul (by omega) h3 h2 (by omega)
  have e0 : (if n < 4097 then n else 4097) = min 4097 n := by split <;> omega
  generalize hq : min 4097 n = q at *
  generalize hp : q * s = p at *
  have e1 : IntKind.i64.wrap (p) = p := w64 (by omega)
  by_cases c2 : p < 4097
  ·
    repeat (first
      | (refine nw_seq (nw_region fun K hK => ?_); simp [c2, e0, e1, hp]; refine hK _ _ ?_; clear hK K)
      | (refine nw_region fun K hK => ?_; simp [c2, e0, e1, hp]; refine hK _ _ ?_; clear hK K)
      | refine nw_seq ?_
      | refine nw_block ?_
      | (refine nw_yes ?_ ?_; focus (simp [c2, e0, e1, hp]; done))
      | (refine nw_no ?_ ?_; focus (simp [c2, e0, e1, hp]; done))
      | refine nw_skip ?_
      | refine nw_exit ?_
      | refine nw_ret ?_)
    simp
    omega
  ·
    repeat (first
      | (refine nw_seq (nw_region fun K hK => ?_); simp [c2, e0, e1, hp]; refine hK _ _ ?_; clear hK K)
      | (refine nw_region fun K hK => ?_; simp [c2, e0, e1, hp]; refine hK _ _ ?_; clear hK K)
      | refine nw_seq ?_
      | refine nw_block ?_
      | (refine nw_yes ?_ ?_; focus (simp [c2, e0, e1, hp]; done))
      | (refine nw_no ?_ ?_; focus (simp [c2, e0, e1, hp]; done))
      | refine nw_skip ?_
      | refine nw_exit ?_
      | refine nw_ret ?_)
    simp
    omega

set_option maxRecDepth 100000 in
theorem whole_ok (xs : List Nd) (α : AH) (v : Value) (h : Nodes α v xs) (hl : xs.length ≤ 1000000000000) :
    NCalls Try.prog 51 [v] α (fun r α' => r = .bool (decide (sizeM xs 0 = xs.length ∧ 0 < xs.length)) ∧ Fr α.n α α') := by
  obtain ⟨id, off, hlen, hidx, hld⟩ := h.rd (t := 49) Try.underlying49 sz55
  refine ncalls_of (by kernel_rfl) Try.func51 rfl (by rw [Try.ntmps51]; simp) ?_
  rw [Try.ntmps51, Try.results51]
  by_cases c1 : 0 < xs.length
  · have c1' : (0 : Int) < xs.length := by omega
    repeat (first
      | (refine nw_seq (nw_region fun K hK => ?_); simp []; refine hK _ _ ?_; clear hK K)
      | (refine nw_region fun K hK => ?_; simp []; refine hK _ _ ?_; clear hK K)
      | refine nw_seq ?_
      | refine nw_block ?_
      | (refine nw_yes ?_ ?_; focus (simp []; done))
      | (refine nw_no ?_ ?_; focus (simp []; done))
      | refine nw_skip ?_
      | refine nw_exit ?_
      | refine nw_ret ?_)
    refine nw_region fun K hK => ?_
    simp [hlen, c1, c1']
    refine (size_ok xs 0 _ v h hl).mono fun r β hr => ?_
    obtain ⟨rfl, hf⟩ := hr
    simp [contK, hlen, c1, c1']
    refine hK _ _ ?_
    clear hK K
    repeat (first
      | (refine nw_seq (nw_region fun K hK => ?_); simp []; refine hK _ _ ?_; clear hK K)
      | (refine nw_region fun K hK => ?_; simp []; refine hK _ _ ?_; clear hK K)
      | refine nw_seq ?_
      | refine nw_block ?_
      | (refine nw_yes ?_ ?_; focus (simp []; done))
      | (refine nw_no ?_ ?_; focus (simp []; done))
      | refine nw_skip ?_
      | refine nw_exit ?_
      | refine nw_ret ?_)
    simp [c1, hf]
    rfl
  ·
    repeat (first
      | (refine nw_seq (nw_region fun K hK => ?_); simp [hlen, c1]; refine hK _ _ ?_; clear hK K)
      | (refine nw_region fun K hK => ?_; simp [hlen, c1]; refine hK _ _ ?_; clear hK K)
      | refine nw_seq ?_
      | refine nw_block ?_
      | (refine nw_yes ?_ ?_; focus (simp [hlen, c1]; done))
      | (refine nw_no ?_ ?_; focus (simp [hlen, c1]; done))
      | refine nw_skip ?_
      | refine nw_exit ?_
      | refine nw_ret ?_)
    simp [c1, Fr.refl]

set_option maxRecDepth 100000 in
theorem kidsNo_ok (xs : List Nd) (at_ : Int) (α : AH) (v : Value) (h : Nodes α v xs) (hl : xs.length ≤ 1000000000000) (h0 : sizeM xs at_ = 0) :
    NCalls Try.prog 29 [v, .int .i64 at_] α (fun r α' => Ow α.n 3 (intK .i64) α' r [] ∧ Fr α.n α α') := by
  refine ncalls_of (by kernel_rfl) Try.func29 rfl (by rw [Try.ntmps29]; simp) ?_
  rw [Try.ntmps29, Try.results29]
  repeat (first
    | (refine nw_seq (nw_region fun K hK => ?_); simp []; refine hK _ _ ?_; clear hK K)
    | (refine nw_region fun K hK => ?_; simp []; refine hK _ _ ?_; clear hK K)
    | refine nw_seq ?_
    | refine nw_block ?_
    | (refine nw_yes ?_ ?_; focus (simp []; done))
    | (refine nw_no ?_ ?_; focus (simp []; done))
    | refine nw_skip ?_
    | refine nw_exit ?_
    | refine nw_ret ?_)
  refine nw_region fun K hK => ?_
  simp []
  refine (size_ok xs at_ _ v h hl).mono fun r β hr => ?_
  obtain ⟨rfl, hf⟩ := hr
  simp [contK, h0]
  refine hK _ _ ?_
  clear hK K
  repeat (first
    | (refine nw_seq (nw_region fun K hK => ?_); simp []; refine hK _ _ ?_; clear hK K)
    | (refine nw_region fun K hK => ?_; simp []; refine hK _ _ ?_; clear hK K)
    | refine nw_seq ?_
    | refine nw_block ?_
    | (refine nw_yes ?_ ?_; focus (simp []; done))
    | (refine nw_no ?_ ?_; focus (simp []; done))
    | refine nw_skip ?_
    | refine nw_exit ?_
    | refine nw_ret ?_)
  refine nw_loop (fun n s α' => s 5 = .int .i64 0 ∧ s 6 = .slice none 0 0 ∧ α' = β) 0 ⟨by simp, by simp, rfl⟩ ?_
  rintro n s α' ⟨s5, s6, rfl⟩
  repeat (first
    | (refine nw_seq (nw_region fun K hK => ?_); simp [s5, s6]; refine hK _ _ ?_; clear hK K)
    | (refine nw_region fun K hK => ?_; simp [s5, s6]; refine hK _ _ ?_; clear hK K)
    | refine nw_seq ?_
    | refine nw_block ?_
    | (refine nw_yes ?_ ?_; focus (simp [s5, s6]; done))
    | (refine nw_no ?_ ?_; focus (simp [s5, s6]; done))
    | refine nw_skip ?_
    | refine nw_exit ?_
    | refine nw_ret ?_)
  simp [hf]
  exact .nil

set_option maxRecDepth 100000 in
theorem kidsAt_ok (xs : List Nd) (j : Nat) (x : Nd) (ks : F) (α : AH) (v : Value) (h : Nodes α v xs) (hl : xs.length ≤ 1000000000000) (h0 : At xs j x ks) :
    NCalls Try.prog 29 [v, .int .i64 (j : Int)] α (fun r α' => Ow α.n 3 (intK .i64) α' r ((F.places (j + 1) ks).map Int.ofNat) ∧ Fr α.n α α') := by
  have hlt := h0.lt
  refine ncalls_of (by kernel_rfl) Try.func29 rfl (by rw [Try.ntmps29]; simp) ?_
  rw [Try.ntmps29, Try.results29]
  repeat (first
    | (refine nw_seq (nw_region fun K hK => ?_); simp []; refine hK _ _ ?_; clear hK K)
    | (refine nw_region fun K hK => ?_; simp []; refine hK _ _ ?_; clear hK K)
    | refine nw_seq ?_
    | refine nw_block ?_
    | (refine nw_yes ?_ ?_; focus (simp []; done))
    | (refine nw_no ?_ ?_; focus (simp []; done))
    | refine nw_skip ?_
    | refine nw_exit ?_
    | refine nw_ret ?_)
  refine nw_region fun K hK => ?_
  simp []
  refine (size_ok xs j _ v h hl).mono fun r β hr => ?_
  obtain ⟨rfl, hf⟩ := hr
  rw [h0.size]
  simp [contK, ]
  refine hK _ _ ?_
  clear hK K
  have e1 : IntKind.i64.wrap ((j : Int) + 1) = (j : Int) + 1 := w64 (by omega)
  have e2 : IntKind.i64.wrap ((j : Int) + (ks.flat.length + 1)) = (j : Int) + (ks.flat.length + 1) := w64 (by omega)
  repeat (first
    | (refine nw_seq (nw_region fun K hK => ?_); simp [e1]; refine hK _ _ ?_; clear hK K)
    | (refine nw_region fun K hK => ?_; simp [e1]; refine hK _ _ ?_; clear hK K)
    | refine nw_seq ?_
    | refine nw_block ?_
    | (refine nw_yes ?_ ?_; focus (simp [e1]; done))
    | (refine nw_no ?_ ?_; focus (simp [e1]; done))
    | refine nw_skip ?_
    | refine nw_exit ?_
    | refine nw_ret ?_)
  refine nw_loop (fun n s α' => ∃ (p : Nat) (r : F) (ys : List Int) (u : Value), n = r.cnt ∧ Lies xs p r ∧ p + r.flat.length = j + 1 + ks.flat.length ∧ s 0 = v ∧ s 1 = .int .i64 (j : Int) ∧ s 5 = .int .i64 ((ks.flat.length : Int) + 1) ∧ s 6 = u ∧ s 7 = .int .i64 (p : Int) ∧ Fr α.n α α' ∧
      Ow α.n 3 (intK .i64) α' u ys ∧ ys.length ≤ p ∧ ys ++ (F.places p r).map Int.ofNat = (F.places (j + 1) ks).map Int.ofNat)
    ks.cnt ⟨j + 1, ks, [], _, rfl, h0.kids, rfl, by simp, by simp, by simp, by simp, by simp, hf, .nil, by simp, by simp⟩ ?_
  rintro n s α' ⟨p, r, ys, u, rfl, hL, hp, s0, s1, s5, s6, s7, hf', ho, hy, hys⟩
  cases r with
  | nil =>
    have c1 : ¬ ((p : Int) < j + (ks.flat.length + 1)) := by simp [F.flat] at hp; omega
    repeat (first
      | (refine nw_seq (nw_region fun K hK => ?_); simp [s0, s1, s5, s6, s7, e2, c1, (by omega : (0 : Int) < (ks.flat.length : Int) + 1)]; refine hK _ _ ?_; clear hK K)
      | (refine nw_region fun K hK => ?_; simp [s0, s1, s5, s6, s7, e2, c1, (by omega : (0 : Int) < (ks.flat.length : Int) + 1)]; refine hK _ _ ?_; clear hK K)
      | refine nw_seq ?_
      | refine nw_block ?_
      | (refine nw_yes ?_ ?_; focus (simp [s0, s1, s5, s6, s7, e2, c1, (by omega : (0 : Int) < (ks.flat.length : Int) + 1)]; done))
      | (refine nw_no ?_ ?_; focus (simp [s0, s1, s5, s6, s7, e2, c1, (by omega : (0 : Int) < (ks.flat.length : Int) + 1)]; done))
      | refine nw_skip ?_
      | refine nw_exit ?_
      | refine nw_ret ?_)
    simp [F.places] at hys
    simp [hf', ← hys]
    exact ho
  | cons z zs r =>
    obtain ⟨hA, hL'⟩ := hL.head
    have c1 : (p : Int) < j + (ks.flat.length + 1) := by simp [F.flat] at hp; omega
    have hAl := hA.lt
    obtain ⟨v', α2, hp1, hp2, hp3, -⟩ := ho.push el28 hf'.n (x := (p : Int)) (c := [.int .i64 (p : Int)]) rfl (intK_apart _ _) (by omega) 0
    have hf2 : Fr α.n α α2 := hf'.trans hp3
    have e3 : IntKind.i64.wrap ((p : Int) + (zs.flat.length + 1)) = (p : Int) + (zs.flat.length + 1) := w64 (by omega)
    repeat (first
      | (refine nw_seq (nw_region fun K hK => ?_); simp [s0, s1, s5, s6, s7, e2, c1, (by omega : (0 : Int) < (ks.flat.length : Int) + 1), hp1]; refine hK _ _ ?_; clear hK K)
      | (refine nw_region fun K hK => ?_; simp [s0, s1, s5, s6, s7, e2, c1, (by omega : (0 : Int) < (ks.flat.length : Int) + 1), hp1]; refine hK _ _ ?_; clear hK K)
      | refine nw_seq ?_
      | refine nw_block ?_
      | (refine nw_yes ?_ ?_; focus (simp [s0, s1, s5, s6, s7, e2, c1, (by omega : (0 : Int) < (ks.flat.length : Int) + 1), hp1]; done))
      | (refine nw_no ?_ ?_; focus (simp [s0, s1, s5, s6, s7, e2, c1, (by omega : (0 : Int) < (ks.flat.length : Int) + 1), hp1]; done))
      | refine nw_skip ?_
      | refine nw_exit ?_
      | refine nw_ret ?_)
    refine nw_region fun K hK => ?_
    simp [s0, s7]
    refine (size_ok xs p _ v (h.fr hf2) hl).mono fun w β2 hw => ?_
    obtain ⟨rfl, hf3⟩ := hw
    rw [hA.size]
    simp [contK, s7, e3]
    refine hK _ _ ?_
    clear hK K
    refine ⟨r.cnt, by simp [F.cnt], p + (zs.flat.length + 1), r, ys ++ [(p : Int)], v', rfl, hL', by simp [F.flat] at hp; omega, ?_⟩
    simp [s0, s1, s5]
    refine ⟨Fr.up hf2 hf3, hp2.fr hf3, by omega, ?_⟩
    rw [← hys]
    simp [F.places]
end Go.Proofs.Ytggkeldedennfaa

set_option linter.unusedVariables false
set_option linter.unusedSimpArgs false
namespace Go.Proofs.Ytggkeldedennfaa
open Go Go.RowKit Go.Lay Go.Nod

@[simp] theorem lt_one (a : Int) : (a < a + 1) = True := eq_true (by omega)
@[simp] theorem lt_two (a : Int) : (a < a + 1 + 1) = True := eq_true (by omega)
@[simp] theorem lt_two' (a : Int) : (a < a + 2) = True := eq_true (by omega)
theorem frm_apart : frmK.apart 95 := flatK_apart _ _ _ _ _
theorem rev_set (s : List Frm) (a b : Frm) : (s.reverse ++ [a]).set s.length b = s.reverse ++ [b] := by
  simp
theorem rev_get (s : List Frm) (a : Frm) (h : s.length < (s.reverse ++ [a]).length) : (s.reverse ++ [a])[s.length] = a := by
  rw [List.getElem_append_right (by simp)]; simp

theorem nw_cut {P : Program} {N : Nat} {c : Code} {Q : Exit → AS → AH → Prop} {s : AS} {α : AH} {J K : AS → AH → Prop} (h : NW P N c (nthen J Q) s α) (k : ∀ s α, J s α → K s α) : NW P N c (nthen K Q) s α :=
  nw_mono h fun e s α h => by cases e <;> first | exact k _ _ h | exact h

theorem rev_get2 (s : List Frm) (a b : Frm) (h : s.length < ((b :: s).reverse ++ [a]).length) : ((b :: s).reverse ++ [a])[s.length] = b := by
  have : (b :: s).reverse ++ [a] = s.reverse ++ [b, a] := by simp
  simp only [this]
  rw [List.getElem_append_right (by simp)]; simp

@[simp] theorem AH.set_set (α : AH) (i : Nat) (b c : Option ABlk) : (α.set i b).set i c = α.set i c := by
  simp only [AH.set, AH.mk.injEq, true_and]
  funext j
  by_cases h : j = i <;> simp [h]
theorem stack_join {N id c' : Nat} {cs : List Value} {δ : AH} {a b : Frm} {s : List Frm} (h2 : N ≤ id) (h3 : id < δ.n) (h7 : (s.length + 1 + 1) * 6 ≤ cs.length)
    (h8 : ∀ (i : Nat) (h : i < ((b :: s).reverse ++ [a]).length), frmK.R δ ((b :: s).reverse ++ [a])[i] ((cs.drop (i * 6)).take 6)) :
    Ow N 95 frmK (δ.set id (some ⟨((cs.set (s.length * 6 + 3) (.int .i64 (joinF a b).left)).set (s.length * 6 + 4) (.int .i64 (joinF a b).depth)).set (s.length * 6 + 5) (.int .i64 (joinF a b).ticks), 95, true⟩))
      (.slice (some ⟨id, 0, none⟩) (s.length + 1) c') (s.reverse ++ [joinF a b]) := by
  have := Ow.mk (N := N) (K := frmK) (xs := s.reverse ++ [joinF a b]) (c := c') h2 (show id < (δ.set id (some ⟨((cs.set (s.length * 6 + 3) (.int .i64 (joinF a b).left)).set (s.length * 6 + 4) (.int .i64 (joinF a b).depth)).set (s.length * 6 + 5) (.int .i64 (joinF a b).ticks), 95, true⟩)).n from h3) (AH.set_get _ _ _)
    (by simp [show frmK.sz = 6 from rfl]; omega) (fun i hi => ?_)
  · simpa using this
  · show _ = _
    have h8i := h8 i (by simp at hi ⊢; omega)
    have h8i : (cs.drop (i * 6)).take 6 = (((b :: s).reverse ++ [a])[i]'(by simp at hi ⊢; omega)).enc := h8i
    show ((_ : List Value).drop (i * 6)).take 6 = _
    rw [set_window (show 5 < 6 by decide), set_window (show 4 < 6 by decide), set_window (show 3 < 6 by decide)]
    have hi' : i < s.length + 1 := by simpa using hi
    by_cases e : s.length = i
    · subst e
      rw [if_pos rfl, if_pos rfl, if_pos rfl, h8i, rev_get2, rev_get]
      rfl
    · rw [if_neg e, if_neg e, if_neg e, h8i]
      have hlt : i < s.length := by omega
      congr 1
      rw [List.getElem_append_left (by simp; omega), List.getElem_append_left (by simp; omega)]
      simp only [List.reverse_cons]
      rw [List.getElem_append_left (by simp; omega)]

set_option maxRecDepth 100000 in
set_option maxHeartbeats 2000000 in
theorem measure_ok (xs : List Nd) (fin : Frm) (α : AH) (v : Value) (h : Nodes α v xs) (hl : xs.length ≤ 1000000000) (hg : ∀ x ∈ xs, 1 ≤ x.n) (hfin : xs.foldl pushF [⟨⟨0, 0, 0⟩, 1, 0, 0⟩] = [fin]) :
    NCalls Try.prog 53 [v] α (fun r α' => r = .tuple #[.int .i64 fin.depth, .int .i64 fin.ticks] ∧ Fr α.n α α') := by
  obtain ⟨id, off, hlen, hidx, hld⟩ := h.rd (t := 49) Try.underlying49 sz55
  have hk3 : nodeK.sz = 3 := rfl
  rw [hk3] at hidx hld
  refine ncalls_of (by kernel_rfl) Try.func53 rfl (by rw [Try.ntmps53]; simp) ?_
  rw [Try.ntmps53, Try.results53]
  repeat (first
    | (refine nw_seq (nw_region fun K hK => ?_); simp [hlen]; refine hK _ _ ?_; clear hK K)
    | (refine nw_region fun K hK => ?_; simp [hlen]; refine hK _ _ ?_; clear hK K)
    | refine nw_seq ?_
    | refine nw_block ?_
    | (refine nw_yes ?_ ?_; focus (simp [hlen]; done))
    | (refine nw_no ?_ ?_; focus (simp [hlen]; done))
    | refine nw_skip ?_
    | refine nw_exit ?_
    | refine nw_ret ?_)
  refine nw_loop (fun n s α' => ∃ (i : Nat) (st : List Frm), n = xs.length - i ∧ i ≤ xs.length ∧ s 12 = v ∧ s 13 = .int .i64 (xs.length : Int) ∧ s 14 = .int .i64 (i : Int) ∧ Fr α.n α α' ∧
      Ow α.n 95 frmK α' (s 4) st.reverse ∧ st.length ≤ i + 1 ∧ (∀ a ∈ st, GoodF a) ∧ (xs.drop i).foldl pushF st = [fin])
    xs.length ⟨0, [⟨⟨0, 0, 0⟩, 1, 0, 0⟩], rfl, by omega, by simp, by simp, by simp, (Fr.refl _ _).alloc (Nat.le_refl _) _, Ow.one (Nat.le_refl _) rfl _, by simp, ?_, hfin⟩ ?_
  · intro a ha
    simp at ha
    subst ha
    exact ⟨by simp, by simp, by simp⟩
  rintro n s α' ⟨i, st, rfl, hi, s12, s13, s14, hf, ho, hsl, hgd, hfo⟩
  generalize s4 : s 4 = u at ho
  by_cases c3 : i < xs.length
  · obtain ⟨b, hb, hfit, hR⟩ := hld α' hf i c3
    have hR : (b.cells.drop (off + i * 3)).take 3 = xs[i].enc := hR
    have hix := hidx .i64 i c3
    have e1 : IntKind.i64.wrap ((i : Int) + 1) = (i : Int) + 1 := w64 (by omega)
    have hxi : 1 ≤ xs[i].n := hg _ (List.getElem_mem _)
    rw [List.drop_eq_getElem_cons c3, List.foldl_cons] at hfo
    generalize hx : xs[i] = x at *
    repeat (first
      | (refine nw_seq (nw_region fun K hK => ?_); simp [s12, s13, s14, c3, hix, hb, hfit, hR, Nd.enc]; refine hK _ _ ?_; clear hK K)
      | (refine nw_region fun K hK => ?_; simp [s12, s13, s14, c3, hix, hb, hfit, hR, Nd.enc]; refine hK _ _ ?_; clear hK K)
      | refine nw_seq ?_
      | refine nw_block ?_
      | (refine nw_yes ?_ ?_; focus (simp [s12, s13, s14, c3, hix, hb, hfit, hR, Nd.enc]; done))
      | (refine nw_no ?_ ?_; focus (simp [s12, s13, s14, c3, hix, hb, hfit, hR, Nd.enc]; done))
      | refine nw_skip ?_
      | refine nw_exit ?_
      | refine nw_ret ?_)
    generalize hβ : (α'.alloc _).set α'.n _ = β
    have hq : β.get α'.n = some ⟨[.int .i64 x.k, .int .i64 x.p, .int .i64 x.n], 55, true⟩ := by rw [← hβ]; exact AH.set_get _ _ _
    have hfβ : Fr α'.n α' β := by rw [← hβ]; exact ((Fr.refl _ _).alloc (Nat.le_refl _) _).set (Nat.le_refl _) _
    have hnβ : β.n = α'.n + 1 := by rw [← hβ]; rfl
    clear hβ
    refine nw_draw (.take 0 (.take 2 (.pick (.cons 1 (.pick (.cons 3 (.take 4 (.pick (.cons 5 (.pick (.cons 6 (.take 7 (.done)) .nil)) .nil))) .nil)) (.cons 3 (.take 1 (.take 4 (.pick (.cons 5 (.pick (.cons 6 (.take 7 (.done)) .nil)) .nil)))) .nil))))) mixd (by kernel_rfl) fun K hK => ?_
    refine (fun (hJ : ∀ sJ αJ, (fun s γ => ∃ u', s 4 = u' ∧ s 6 = .pointer (some ⟨α'.n, 0, none⟩) ∧ s 12 = v ∧ s 13 = .int .i64 (xs.length : Int) ∧ s 14 = .int .i64 (i : Int) ∧ Fr α.n α γ ∧ Ow α.n 95 frmK γ u' (st.reverse ++ [⟨x, kidsM x, 0, 0⟩]) ∧ γ.get α'.n = some ⟨[.int .i64 x.k, .int .i64 x.p, .int .i64 x.n], 55, true⟩) sJ αJ → K sJ αJ) => ?_) (fun s δ hj => hK s δ ?_)
    · clear hK
      simp [s4, hq]
      have both : ∀ γ, Fr β.n β γ → ∃ v' α2, aappend Try.prog #[96, 96] u (.slice (some ⟨γ.n, 0, none⟩) 1 0) (γ.alloc ⟨[.int .i64 x.k, .int .i64 x.p, .int .i64 x.n, .int .i64 (kidsM x), .int .i64 0, .int .i64 0], 95, true⟩) = some (v', α2) ∧
          Fr α.n α α2 ∧ Ow α.n 95 frmK α2 v' (st.reverse ++ [⟨x, kidsM x, 0, 0⟩]) ∧ α2.get α'.n = some ⟨[.int .i64 x.k, .int .i64 x.p, .int .i64 x.n], 55, true⟩ := fun γ hγ => by
        have f1 : Fr α'.n α' γ := Fr.up hfβ hγ
        obtain ⟨v', α2, p1, p2, p3, p4⟩ := (ho.fr f1).push el96 (Fr.up hf f1).n (x := ⟨x, kidsM x, 0, 0⟩) rfl frm_apart (by simp; omega) 0
        exact ⟨v', α2, p1, (Fr.up hf f1).trans p3, p2, p4 _ _ (by rw [hγ.get _ (by omega)]; exact hq) (show (55 : Nat) ≠ 95 by decide) (by have := hγ.n; omega)⟩
      refine ⟨?_, ?_⟩
      · refine (kids_ok x _).mono fun r γ hr => ?_
        obtain ⟨rfl, hγ⟩ := hr
        obtain ⟨v', α2, p1, p2⟩ := both γ hγ
        simp [contK, p1]
        refine hJ _ _ ⟨v', ?_⟩
        simp [s12, s13, s14, p2]
      · refine (kids_ok x _).mono fun r γ hr => ?_
        obtain ⟨rfl, hγ⟩ := hr
        obtain ⟨v', α2, p1, p2⟩ := both γ hγ
        have : γ.get α'.n = some ⟨[.int .i64 x.k, .int .i64 x.p, .int .i64 x.n], 55, true⟩ := by rw [hγ.get _ (by omega)]; exact hq
        simp [contK, this, p1]
        refine hJ _ _ ⟨v', ?_⟩
        simp [s12, s13, s14, p2]
    clear hK K
    rename AH => γ
    obtain ⟨u', t4, t6, t12, t13, t14, hfγ, hoγ, hqγ⟩ := hj
    obtain ⟨qid, c, cs, rfl, hq1, hq2, hq3, hq4, hq5⟩ := hoγ.mem (by simp)
    have hsz : (st.reverse ++ [(⟨x, kidsM x, 0, 0⟩ : Frm)]).length = st.length + 1 := by simp
    rw [hsz] at t4 hq4
    have hc := hq5 st.length (by simp)
    rw [rev_get] at hc
    have hc3 : cs[st.length * 6 + 3]? = some (.int .i64 (kidsM x)) := take_get hc (j := 3) (show 3 < 6 by decide)
    have hf1 : st.length * 6 + 5 + 1 ≤ cs.length := by have : (st.length + 1) * 6 ≤ cs.length := hq4; omega
    have e2 : IntKind.i64.wrap (st.length : Int) = st.length := w64 (by omega)
    repeat (first
      | (refine nw_seq (nw_region fun K hK => ?_); simp [t4, t6, e2, hq3, hc3, hqγ]; refine hK _ _ ?_; clear hK K)
      | (refine nw_region fun K hK => ?_; simp [t4, t6, e2, hq3, hc3, hqγ]; refine hK _ _ ?_; clear hK K)
      | refine nw_seq ?_
      | refine nw_block ?_
      | (refine nw_yes ?_ ?_; focus (simp [t4, t6, e2, hq3, hc3, hqγ]; done))
      | (refine nw_no ?_ ?_; focus (simp [t4, t6, e2, hq3, hc3, hqγ]; done))
      | refine nw_skip ?_
      | refine nw_exit ?_
      | refine nw_ret ?_)
    refine nw_cut (J := fun s γ => s 12 = v ∧ s 13 = .int .i64 (xs.length : Int) ∧ s 14 = .int .i64 (i : Int) ∧ Fr α.n α γ ∧ Ow α.n 95 frmK γ (s 4) (st.reverse ++ [frm0 x])) ?_ ?_
    · by_cases z : kidsM x = 0
      ·
        repeat (first
          | (refine nw_seq (nw_region fun K hK => ?_); simp [t4, t6, e2, hq3, hc3, hqγ, z, hf1]; refine hK _ _ ?_; clear hK K)
          | (refine nw_region fun K hK => ?_; simp [t4, t6, e2, hq3, hc3, hqγ, z, hf1]; refine hK _ _ ?_; clear hK K)
          | refine nw_seq ?_
          | refine nw_block ?_
          | (refine nw_yes ?_ ?_; focus (simp [t4, t6, e2, hq3, hc3, hqγ, z, hf1]; done))
          | (refine nw_no ?_ ?_; focus (simp [t4, t6, e2, hq3, hc3, hqγ, z, hf1]; done))
          | refine nw_skip ?_
          | refine nw_exit ?_
          | refine nw_ret ?_)
        simp [t4, t12, t13, t14]
        refine ⟨hfγ.set hq1 _, ?_⟩
        have := Ow.put1 (N := α.n) (c := c) frm_apart hq1 hq2 hq3 (by rw [hsz]; exact hq4) hq5 st.length 5 (by decide) (.int .i64 (if x.n < 4097 then x.n else 4097)) (frm0 x) (by rw [hc]; simp [Frm.enc, frm0, z]; rfl) (st.length * 6 + 5) rfl
        rw [rev_set, hsz] at this
        exact this
      ·
        repeat (first
          | (refine nw_seq (nw_region fun K hK => ?_); simp [z]; refine hK _ _ ?_; clear hK K)
          | (refine nw_region fun K hK => ?_; simp [z]; refine hK _ _ ?_; clear hK K)
          | refine nw_seq ?_
          | refine nw_block ?_
          | (refine nw_yes ?_ ?_; focus (simp [z]; done))
          | (refine nw_no ?_ ?_; focus (simp [z]; done))
          | refine nw_skip ?_
          | refine nw_exit ?_
          | refine nw_ret ?_)
        have hfr : frm0 x = ⟨x, kidsM x, 0, 0⟩ := by simp [frm0, z]
        simp [t4, t12, t13, t14, hfr]
        refine ⟨hfγ, ?_⟩
        rw [hsz] at hoγ
        exact hoγ
    clear hc3 hc hf1 hq5 hq4 hq3 hq2 hq1 hsz hqγ t4 t6 t12 t13 t14 hfγ hoγ cs c qid
    rintro s γ ⟨t12, t13, t14, hfγ, hoγ⟩
    repeat (first
      | (refine nw_seq (nw_region fun K hK => ?_); simp []; refine hK _ _ ?_; clear hK K)
      | (refine nw_region fun K hK => ?_; simp []; refine hK _ _ ?_; clear hK K)
      | refine nw_seq ?_
      | refine nw_block ?_
      | (refine nw_yes ?_ ?_; focus (simp []; done))
      | (refine nw_no ?_ ?_; focus (simp []; done))
      | refine nw_skip ?_
      | refine nw_exit ?_
      | refine nw_ret ?_)
    refine nw_loop (fun n s γ => ∃ (a : Frm) (st2 : List Frm), n = st2.length ∧ s 12 = v ∧ s 13 = .int .i64 (xs.length : Int) ∧ s 14 = .int .i64 (i : Int) ∧ Fr α.n α γ ∧ Ow α.n 95 frmK γ (s 4) (st2.reverse ++ [a]) ∧ st2.length ≤ st.length ∧ (∀ b ∈ a :: st2, GoodF b) ∧ pops (a :: st2) = pushF st x)
      st.length ⟨frm0 x, st, rfl, t12, t13, t14, hfγ, hoγ, Nat.le_refl _, ?_, rfl⟩ ?_
    · intro b hb
      rcases List.mem_cons.1 hb with rfl | hb
      · exact frm0_good hxi
      · exact hgd _ hb
    clear t12 t13 t14 hfγ hoγ
    rintro n s γ ⟨a, st2, rfl, s12, s13, s14, hfγ, hoγ, hs2, hg2, hpo⟩
    have ho2 := hoγ
    obtain ⟨qid, c, cs, s4, hq1, hq2, hq3, hq4, hq5⟩ := hoγ.mem (by simp)
    have hsz : (st2.reverse ++ [a]).length = st2.length + 1 := by simp
    rw [hsz] at s4 hq4
    rw [s4] at ho2
    have hc := hq5 st2.length (by simp)
    rw [rev_get] at hc
    have hc3 : cs[st2.length * 6 + 3]? = some (.int .i64 a.left) := take_get hc (j := 3) (show 3 < 6 by decide)
    have e2 : IntKind.i64.wrap (st2.length : Int) = st2.length := w64 (by omega)
    have hout : pops (a :: st2) = a :: st2 → (List.drop (i + 1) xs).foldl pushF (a :: st2) = [fin] := fun h => by rw [← hfo, ← hpo, h]
    cases st2 with
    | nil =>
      repeat (first
        | (refine nw_seq (nw_region fun K hK => ?_); simp [s4, s12, s13, s14, e1]; refine hK _ _ ?_; clear hK K)
        | (refine nw_region fun K hK => ?_; simp [s4, s12, s13, s14, e1]; refine hK _ _ ?_; clear hK K)
        | refine nw_seq ?_
        | refine nw_block ?_
        | (refine nw_yes ?_ ?_; focus (simp [s4, s12, s13, s14, e1]; done))
        | (refine nw_no ?_ ?_; focus (simp [s4, s12, s13, s14, e1]; done))
        | refine nw_skip ?_
        | refine nw_exit ?_
        | refine nw_ret ?_)
      refine ⟨xs.length - (i + 1), by omega, i + 1, [a], rfl, by omega, ?_⟩
      simp [s4, s12, s13, s14, e1]
      exact ⟨hfγ, by simpa using ho2, by simpa using hg2, hout (pops_stop (.inr rfl))⟩
    | cons b2 s2 =>
      have e3 : IntKind.i64.wrap ((s2.length : Int) + 1) = s2.length + 1 := w64 (by simp at hs2; omega)
      have l1 : (1 : Int) < s2.length + 1 + 1 := by omega
      have l2 : (0 : Int) ≤ s2.length + 1 := by omega
      simp only [List.length_cons] at s4 hc3 hq4 hs2 hsz
      by_cases z : a.left = 0
      ·
        repeat (first
          | (refine nw_seq (nw_region fun K hK => ?_); simp [s4, s12, s13, s14, e3, l1, l2, hq3, hc3, z]; refine hK _ _ ?_; clear hK K)
          | (refine nw_region fun K hK => ?_; simp [s4, s12, s13, s14, e3, l1, l2, hq3, hc3, z]; refine hK _ _ ?_; clear hK K)
          | refine nw_seq ?_
          | refine nw_block ?_
          | (refine nw_yes ?_ ?_; focus (simp [s4, s12, s13, s14, e3, l1, l2, hq3, hc3, z]; done))
          | (refine nw_no ?_ ?_; focus (simp [s4, s12, s13, s14, e3, l1, l2, hq3, hc3, z]; done))
          | refine nw_skip ?_
          | refine nw_exit ?_
          | refine nw_ret ?_)
        have hf6 : (s2.length + 1) * 6 + 6 ≤ cs.length := by have : (s2.length + 1 + 1) * 6 ≤ cs.length := hq4; omega
        have hca : (cs.drop ((s2.length + 1) * 6)).take 6 = a.enc := hc
        have hcb : (cs.drop (s2.length * 6)).take 6 = b2.enc := by
          have := hq5 s2.length (by simp)
          rw [rev_get2] at this
          exact this
        have e4 : IntKind.i64.wrap ((s2.length : Int) + 1 + 1 - 2) = s2.length := by rw [w64 (by omega)]; omega
        have l3 : (s2.length : Int) < s2.length + 1 + 1 := by omega
        refine nw_draw (.take 0 (.take 1 (.take 2 (.take 3 (.take 4 (.take 6 (.take 7 (.take 8 (.take 9 (.take 10 (.pick (.cons 5 (.pick (.cons 11 (.pick (.cons 12 (.take 13 (.done)) .nil)) .nil)) (.cons 11 (.take 5 (.pick (.cons 12 (.take 13 (.done)) .nil))) .nil))))))))))))) mixd (by kernel_rfl) fun K hK => ?_
        refine (fun (hJ : ∀ sJ αJ, (fun s δ => s 4 = .slice (some ⟨qid, 0, none⟩) (s2.length + 1 + 1) c ∧ s 8 = .pointer (some ⟨γ.n, 0, none⟩) ∧ s 9 = .pointer (some ⟨qid, s2.length * 6, none⟩) ∧ s 12 = v ∧ s 13 = .int .i64 (xs.length : Int) ∧ s 14 = .int .i64 (i : Int) ∧ Fr γ.n γ δ ∧ δ.get γ.n = some ⟨a.enc, 95, true⟩ ∧ γ.n < δ.n) sJ αJ → K sJ αJ) => ?_) (fun s δ hj => hK s δ ?_)
        · clear hK
          have g0 : ∀ b, (γ.alloc b).get qid = some ⟨cs, 95, true⟩ := fun b => by rw [AH.alloc_get_ne _ _ (by omega)]; exact hq3
          simp [s4, e3, e4, l2, l3, hq3, g0, hf6, hca, Frm.enc]
          refine ⟨?_, ?_⟩ <;> refine hJ _ _ ?_ <;> simp [s4, s12, s13, s14] <;>
          exact ⟨(Fr.refl _ _).alloc (Nat.le_refl _) _ |>.set (Nat.le_refl _) _, by first | rfl | exact ⟨rfl, Nat.lt_succ_self _⟩⟩
        clear hK K
        obtain ⟨t4, t8, t9, t12, t13, t14, hfδ, hδ, hnδ⟩ := hj
        have hq3' : δ.get qid = some ⟨cs, 95, true⟩ := by rw [hfδ.get _ hq2]; exact hq3
        have hne : γ.n ≠ qid := by omega
        repeat (first
          | (refine nw_seq (nw_region fun K hK => ?_); simp [t4, e3, hq3', aslice, l2, t8, hδ, Frm.enc]; refine hK _ _ ?_; clear hK K)
          | (refine nw_region fun K hK => ?_; simp [t4, e3, hq3', aslice, l2, t8, hδ, Frm.enc]; refine hK _ _ ?_; clear hK K)
          | refine nw_seq ?_
          | refine nw_block ?_
          | (refine nw_yes ?_ ?_; focus (simp [t4, e3, hq3', aslice, l2, t8, hδ, Frm.enc]; done))
          | (refine nw_no ?_ ?_; focus (simp [t4, e3, hq3', aslice, l2, t8, hδ, Frm.enc]; done))
          | refine nw_skip ?_
          | refine nw_exit ?_
          | refine nw_ret ?_)
        have ga : GoodF a := hg2 a (by simp)
        have gb : GoodF b2 := hg2 b2 (by simp)
        have gt := tk_good ga
        refine nw_cut (J := fun s ε => s 4 = .slice (some ⟨qid, 0, none⟩) (s2.length + 1) 0 ∧ s 8 = .pointer (some ⟨γ.n, 0, none⟩) ∧ s 9 = .pointer (some ⟨qid, s2.length * 6, none⟩) ∧ s 12 = v ∧ s 13 = .int .i64 (xs.length : Int) ∧ s 14 = .int .i64 (i : Int) ∧ Fr γ.n γ ε ∧ γ.n < ε.n ∧
          ε.get γ.n = some ⟨[.int .i64 a.x.k, .int .i64 a.x.p, .int .i64 a.x.n, .int .i64 a.left, .int .i64 a.depth, .int .i64 a.tk], 95, true⟩) ?_ ?_
        · by_cases c4 : a.x.k = 4
          ·
            repeat (first
              | (refine nw_seq (nw_region fun K hK => ?_); simp [t8, hδ, Frm.enc, c4]; refine hK _ _ ?_; clear hK K)
              | (refine nw_region fun K hK => ?_; simp [t8, hδ, Frm.enc, c4]; refine hK _ _ ?_; clear hK K)
              | refine nw_seq ?_
              | refine nw_block ?_
              | (refine nw_yes ?_ ?_; focus (simp [t8, hδ, Frm.enc, c4]; done))
              | (refine nw_no ?_ ?_; focus (simp [t8, hδ, Frm.enc, c4]; done))
              | refine nw_skip ?_
              | refine nw_exit ?_
              | refine nw_ret ?_)
            refine nw_region fun K hK => ?_
            simp [t8, hδ, Frm.enc]
            refine (times_ok _ _ _ (ga.2.2 c4) ga.1 ga.2.1).mono fun r ε hr => ?_
            obtain ⟨rfl, rfl⟩ := hr
            simp [contK, t8, hδ, Frm.enc]
            refine hK _ _ ?_
            clear hK K
            simp [t4, t8, t9, t12, t13, t14, Frm.tk, c4]
            refine ⟨hfδ.set (Nat.le_refl _) _, hnδ⟩
          ·
            repeat (first
              | (refine nw_seq (nw_region fun K hK => ?_); simp [t8, hδ, Frm.enc, c4]; refine hK _ _ ?_; clear hK K)
              | (refine nw_region fun K hK => ?_; simp [t8, hδ, Frm.enc, c4]; refine hK _ _ ?_; clear hK K)
              | refine nw_seq ?_
              | refine nw_block ?_
              | (refine nw_yes ?_ ?_; focus (simp [t8, hδ, Frm.enc, c4]; done))
              | (refine nw_no ?_ ?_; focus (simp [t8, hδ, Frm.enc, c4]; done))
              | refine nw_skip ?_
              | refine nw_exit ?_
              | refine nw_ret ?_)
            simp [t4, t8, t9, t12, t13, t14, Frm.tk, c4, hδ, Frm.enc]
            exact ⟨hfδ, hnδ⟩
        clear t4 t8 t9 t12 t13 t14 hfδ hnδ hδ hq3'
        rintro s ε ⟨t4, t8, t9, t12, t13, t14, hfδ, hnδ, hδ⟩
        have hq3' : ε.get qid = some ⟨cs, 95, true⟩ := by rw [hfδ.get _ hq2]; exact hq3
        have g1 : ∀ b, (ε.set qid b).get γ.n = ε.get γ.n := fun b => AH.set_get_ne _ _ hne
        have b3 : cs[s2.length * 6 + 3]? = some (.int .i64 b2.left) := take_get hcb (j := 3) (show 3 < 6 by decide)
        have b4 : cs[s2.length * 6 + 4]? = some (.int .i64 b2.depth) := take_get hcb (j := 4) (show 4 < 6 by decide)
        have b5 : cs[s2.length * 6 + 5]? = some (.int .i64 b2.ticks) := take_get hcb (j := 5) (show 5 < 6 by decide)
        have f3 : s2.length * 6 + 3 + 1 ≤ cs.length := by omega
        have f4 : s2.length * 6 + 4 + 1 ≤ cs.length := by omega
        have f5 : s2.length * 6 + 5 + 1 ≤ cs.length := by omega
        repeat (first
          | (refine nw_seq (nw_region fun K hK => ?_); simp [t9, hq3', b3, f3]; refine hK _ _ ?_; clear hK K)
          | (refine nw_region fun K hK => ?_; simp [t9, hq3', b3, f3]; refine hK _ _ ?_; clear hK K)
          | refine nw_seq ?_
          | refine nw_block ?_
          | (refine nw_yes ?_ ?_; focus (simp [t9, hq3', b3, f3]; done))
          | (refine nw_no ?_ ?_; focus (simp [t9, hq3', b3, f3]; done))
          | refine nw_skip ?_
          | refine nw_exit ?_
          | refine nw_ret ?_)
        refine nw_draw (.take 0 (.take 1 (.take 2 (.take 3 (.take 4 (.take 5 (.take 6 (.take 7 (.take 8 (.take 9 (.take 10 (.pick (.cons 11 (.done) .nil))))))))))))) mixd (by kernel_rfl) fun K hK => ?_
        simp [t8, t9, hq3', g1, hδ, b4, f4]
        refine hK _ _ ?_
        clear hK K
        refine nw_draw (.take 0 (.take 1 (.take 2 (.take 3 (.take 4 (.take 5 (.take 6 (.pick (.cons 7 (.take 8 (.take 9 (.pick (.cons 10 (.done) .nil)))) .nil))))))))) mixd (by kernel_rfl) fun K hK => ?_
        simp [t8, t9, hq3', g1, hδ, b5, f5]
        refine (add_ok _ _ _ gb.1 gt.1 gb.2.1).mono fun r ε' hr => ?_
        obtain ⟨rfl, rfl⟩ := hr
        simp [contK, t8, t9, hq3', g1, hδ, b5, f5]
        refine hK _ _ ?_
        clear hK K
        refine ⟨s2.length, by simp, joinF a b2, s2, rfl, ?_⟩
        simp [t4, t12, t13, t14]
        have hfin' := stack_join (N := α.n) (c' := 0) hq1 (show qid < ε.n from Nat.lt_of_lt_of_le hq2 hfδ.n) hq4 (fun i hi => hq5 i (by simpa using hi))
        refine ⟨(Fr.up hfγ hfδ).set hq1 _, hfin', by omega, ?_, ?_⟩
        · exact ⟨join_good ga gb, fun d hd => hg2 d (by simp [hd])⟩
        · rw [← hpo, pops_cons z]
      ·
        repeat (first
          | (refine nw_seq (nw_region fun K hK => ?_); simp [s4, s12, s13, s14, e1, e3, l1, l2, hq3, hc3, z]; refine hK _ _ ?_; clear hK K)
          | (refine nw_region fun K hK => ?_; simp [s4, s12, s13, s14, e1, e3, l1, l2, hq3, hc3, z]; refine hK _ _ ?_; clear hK K)
          | refine nw_seq ?_
          | refine nw_block ?_
          | (refine nw_yes ?_ ?_; focus (simp [s4, s12, s13, s14, e1, e3, l1, l2, hq3, hc3, z]; done))
          | (refine nw_no ?_ ?_; focus (simp [s4, s12, s13, s14, e1, e3, l1, l2, hq3, hc3, z]; done))
          | refine nw_skip ?_
          | refine nw_exit ?_
          | refine nw_ret ?_)
        refine ⟨xs.length - (i + 1), by omega, i + 1, a :: b2 :: s2, rfl, by omega, ?_⟩
        simp [s4, s12, s13, s14, e1]
        exact ⟨hfγ, by simpa using ho2, by omega, by simpa using hg2, hout (pops_stop (.inl z))⟩
  · have : i = xs.length := by omega
    subst this
    simp at hfo
    subst hfo
    have hmem := ho.mem (by simp)
    obtain ⟨qid, c, cs, rfl, hq1, hq2, hq3, hq4, hq5⟩ := hmem
    have hc := hq5 0 (by simp)
    have hc4 : cs[4]? = some (.int .i64 fin.depth) := take_get (o := 0) hc (j := 4) (show 4 < 6 by decide)
    have hc5 : cs[5]? = some (.int .i64 fin.ticks) := take_get (o := 0) hc (j := 5) (show 5 < 6 by decide)
    simp at s4
    repeat (first
      | (refine nw_seq (nw_region fun K hK => ?_); simp [s12, s13, s14]; refine hK _ _ ?_; clear hK K)
      | (refine nw_region fun K hK => ?_; simp [s12, s13, s14]; refine hK _ _ ?_; clear hK K)
      | refine nw_seq ?_
      | refine nw_block ?_
      | (refine nw_yes ?_ ?_; focus (simp [s12, s13, s14]; done))
      | (refine nw_no ?_ ?_; focus (simp [s12, s13, s14]; done))
      | refine nw_skip ?_
      | refine nw_exit ?_
      | refine nw_ret ?_)
    refine nw_draw (.take 0 (.take 1 (.take 2 (.take 3 (.take 4 (.take 5 (.take 6 (.take 7 (.take 8 (.take 9 (.done))))))))))) mixd (by kernel_rfl) fun K hK => ?_
    simp [s4, hq3, hc4, hc5]
    refine hK _ _ ?_
    clear hK K
    repeat (first
      | (refine nw_seq (nw_region fun K hK => ?_); simp []; refine hK _ _ ?_; clear hK K)
      | (refine nw_region fun K hK => ?_; simp []; refine hK _ _ ?_; clear hK K)
      | refine nw_seq ?_
      | refine nw_block ?_
      | (refine nw_yes ?_ ?_; focus (simp []; done))
      | (refine nw_no ?_ ?_; focus (simp []; done))
      | refine nw_skip ?_
      | refine nw_exit ?_
      | refine nw_ret ?_)
    simp [hf]
end Go.Proofs.Ytggkeldedennfaa

set_option linter.unusedVariables false
set_option linter.unusedSimpArgs false
namespace Go.Nod
theorem F.n_pos : ∀ f : F, f.ok → ∀ x ∈ f.flat, 1 ≤ x.n
  | .nil, _, x, h => by simp [F.flat] at h
  | .cons y ks r, ⟨h1, h2, h3⟩, x, h => by
    simp only [F.flat, List.mem_cons, List.mem_append] at h
    rcases h with rfl | h | h
    · exact kids_n h1
    · exact F.n_pos ks h2 x h
    · exact F.n_pos r h3 x h
/-- What a table is judged to be. -/
def Judged (xs : List Nd) (w : Bool) (d len : Int) : Prop :=
  (w = false ∧ ¬ (sizeM xs 0 = xs.length ∧ 0 < xs.length) ∧ d = 0 ∧ len = 0) ∨
  (w = true ∧ sizeM xs 0 = xs.length ∧ 0 < xs.length ∧ ∃ x ks, (F.cons x ks .nil).ok ∧ xs = x :: ks.flat ∧ d = ks.dep + 1 ∧ len = min 4097 (val x ks.len))
theorem judged (xs : List Nd) : ∃ w d len, Judged xs w d len := by
  by_cases h : sizeM xs 0 = xs.length ∧ 0 < xs.length
  · obtain ⟨j, x, ks, hj, ha⟩ := size_at (l := xs) (i := 0) (by omega)
    have hj : j = 0 := by omega
    subst hj
    have hs : sizeM xs 0 = ks.flat.length + 1 := ha.size
    have hl := h.1
    obtain ⟨h1, ys, h2⟩ := ha
    have : ys = [] := by
      have := congrArg List.length h2
      simp at this
      exact List.length_eq_zero_iff.1 (by omega)
    subst this
    exact ⟨true, _, _, .inr ⟨rfl, h.1, h.2, x, ks, h1, by simpa using h2, rfl, rfl⟩⟩
  · exact ⟨false, 0, 0, .inl ⟨rfl, h, rfl, rfl⟩⟩
def rightM (n : Nat) (w : Bool) (d len : Int) : Int := if 128 < (n : Int) then 3 else if w = false then 12 else if 16 < d then 14 else if 4096 < len then 18 else 0
end Go.Nod
namespace Go.Proofs.Ytggkeldedennfaa
open Go Go.RowKit Go.Lay Go.Nod

theorem mm_ok (xs : List Nd) {d len : Int} (hj : Judged xs true d len) (α : AH) (v : Value) (h : Nodes α v xs) (hl : xs.length ≤ 1000000000) :
    NCalls Try.prog 53 [v] α (fun r α' => r = .tuple #[.int .i64 d, .int .i64 len] ∧ Fr α.n α α') := by
  rcases hj with ⟨h0, _⟩ | ⟨_, _, _, x, ks, h1, rfl, rfl, rfl⟩
  · cases h0
  · refine (measure_ok _ ⟨⟨0, 0, 0⟩, 0, ks.dep + 1, min 4097 (val x ks.len)⟩ α v h hl ?_ (fold_whole h1 (by simp at hl; omega) _)).mono fun r β hr => hr
    intro y hy
    exact F.n_pos _ h1 y (by simpa [F.flat] using hy)
theorem wh_ok (xs : List Nd) {w : Bool} {d len : Int} (hj : Judged xs w d len) (α : AH) (v : Value) (h : Nodes α v xs) (hl : xs.length ≤ 1000000000) :
    NCalls Try.prog 51 [v] α (fun r α' => r = .bool w ∧ Fr α.n α α') := by
  refine (whole_ok xs α v h (by omega)).mono fun r β hr => ⟨?_, hr.2⟩
  rw [hr.1]
  rcases hj with ⟨rfl, h1, _⟩ | ⟨rfl, h1, h2, _⟩
  · simp [h1]
  · simp [h1]; exact h2

theorem depth_ok (xs : List Nd) {w : Bool} {d len : Int} (hj : Judged xs w d len) (α : AH) (v : Value) (h : Nodes α v xs) (hl : xs.length ≤ 1000000000) :
    NCalls Try.prog 32 [v] α (fun r α' => r = .int .i64 d ∧ Fr α.n α α') := by
  refine ncalls_of (by kernel_rfl) Try.func32 rfl (by rw [Try.ntmps32]; simp) ?_
  rw [Try.ntmps32, Try.results32]
  repeat (first
    | (refine nw_seq (nw_region fun K hK => ?_); simp []; refine hK _ _ ?_; clear hK K)
    | (refine nw_region fun K hK => ?_; simp []; refine hK _ _ ?_; clear hK K)
    | refine nw_seq ?_
    | refine nw_block ?_
    | (refine nw_yes ?_ ?_; focus (simp []; done))
    | (refine nw_no ?_ ?_; focus (simp []; done))
    | refine nw_skip ?_
    | refine nw_exit ?_
    | refine nw_ret ?_)
  refine nw_region fun K hK => ?_
  simp []
  refine (wh_ok xs hj _ v h hl).mono fun r β hr => ?_
  obtain ⟨rfl, hf⟩ := hr
  simp [contK, ]
  refine hK _ _ ?_
  clear hK K
  cases w with
  | false =>
    repeat (first
      | (refine nw_seq (nw_region fun K hK => ?_); simp []; refine hK _ _ ?_; clear hK K)
      | (refine nw_region fun K hK => ?_; simp []; refine hK _ _ ?_; clear hK K)
      | refine nw_seq ?_
      | refine nw_block ?_
      | (refine nw_yes ?_ ?_; focus (simp []; done))
      | (refine nw_no ?_ ?_; focus (simp []; done))
      | refine nw_skip ?_
      | refine nw_exit ?_
      | refine nw_ret ?_)
    have : d = 0 := by
      rcases hj with ⟨_, _, h0, _⟩ | ⟨h0, _⟩
      · exact h0
      · cases h0
    simp [this, hf]
  | true =>
    repeat (first
      | (refine nw_seq (nw_region fun K hK => ?_); simp []; refine hK _ _ ?_; clear hK K)
      | (refine nw_region fun K hK => ?_; simp []; refine hK _ _ ?_; clear hK K)
      | refine nw_seq ?_
      | refine nw_block ?_
      | (refine nw_yes ?_ ?_; focus (simp []; done))
      | (refine nw_no ?_ ?_; focus (simp []; done))
      | refine nw_skip ?_
      | refine nw_exit ?_
      | refine nw_ret ?_)
    refine nw_region fun K hK => ?_
    simp []
    refine (mm_ok xs hj _ v (h.fr hf) hl).mono fun r β' hr => ?_
    obtain ⟨rfl, hf'⟩ := hr
    simp [contK, ]
    refine hK _ _ ?_
    clear hK K
    repeat (first
      | (refine nw_seq (nw_region fun K hK => ?_); simp []; refine hK _ _ ?_; clear hK K)
      | (refine nw_region fun K hK => ?_; simp []; refine hK _ _ ?_; clear hK K)
      | refine nw_seq ?_
      | refine nw_block ?_
      | (refine nw_yes ?_ ?_; focus (simp []; done))
      | (refine nw_no ?_ ?_; focus (simp []; done))
      | refine nw_skip ?_
      | refine nw_exit ?_
      | refine nw_ret ?_)
    simp
    exact Fr.up hf hf'

theorem length_ok (xs : List Nd) {w : Bool} {d len : Int} (hj : Judged xs w d len) (α : AH) (v : Value) (h : Nodes α v xs) (hl : xs.length ≤ 1000000000) :
    NCalls Try.prog 31 [v] α (fun r α' => r = .tuple #[.int .i64 (if len ≤ 4096 then len else 0), .bool (w && decide (len ≤ 4096))] ∧ Fr α.n α α') := by
  refine ncalls_of (by kernel_rfl) Try.func31 rfl (by rw [Try.ntmps31]; simp) ?_
  rw [Try.ntmps31, Try.results31]
  repeat (first
    | (refine nw_seq (nw_region fun K hK => ?_); simp []; refine hK _ _ ?_; clear hK K)
    | (refine nw_region fun K hK => ?_; simp []; refine hK _ _ ?_; clear hK K)
    | refine nw_seq ?_
    | refine nw_block ?_
    | (refine nw_yes ?_ ?_; focus (simp []; done))
    | (refine nw_no ?_ ?_; focus (simp []; done))
    | refine nw_skip ?_
    | refine nw_exit ?_
    | refine nw_ret ?_)
  refine nw_region fun K hK => ?_
  simp []
  refine (wh_ok xs hj _ v h hl).mono fun r β hr => ?_
  obtain ⟨rfl, hf⟩ := hr
  simp [contK, ]
  refine hK _ _ ?_
  clear hK K
  cases w with
  | false =>
    repeat (first
      | (refine nw_seq (nw_region fun K hK => ?_); simp []; refine hK _ _ ?_; clear hK K)
      | (refine nw_region fun K hK => ?_; simp []; refine hK _ _ ?_; clear hK K)
      | refine nw_seq ?_
      | refine nw_block ?_
      | (refine nw_yes ?_ ?_; focus (simp []; done))
      | (refine nw_no ?_ ?_; focus (simp []; done))
      | refine nw_skip ?_
      | refine nw_exit ?_
      | refine nw_ret ?_)
    have : len = 0 := by
      rcases hj with ⟨_, _, _, h0⟩ | ⟨h0, _⟩
      · exact h0
      · cases h0
    simp [this, hf]
  | true =>
    repeat (first
      | (refine nw_seq (nw_region fun K hK => ?_); simp []; refine hK _ _ ?_; clear hK K)
      | (refine nw_region fun K hK => ?_; simp []; refine hK _ _ ?_; clear hK K)
      | refine nw_seq ?_
      | refine nw_block ?_
      | (refine nw_yes ?_ ?_; focus (simp []; done))
      | (refine nw_no ?_ ?_; focus (simp []; done))
      | refine nw_skip ?_
      | refine nw_exit ?_
      | refine nw_ret ?_)
    refine nw_region fun K hK => ?_
    simp []
    refine (mm_ok xs hj _ v (h.fr hf) hl).mono fun r β' hr => ?_
    obtain ⟨rfl, hf'⟩ := hr
    simp [contK, ]
    refine hK _ _ ?_
    clear hK K
    by_cases c : len ≤ 4096
    ·
      repeat (first
        | (refine nw_seq (nw_region fun K hK => ?_); simp [c]; refine hK _ _ ?_; clear hK K)
        | (refine nw_region fun K hK => ?_; simp [c]; refine hK _ _ ?_; clear hK K)
        | refine nw_seq ?_
        | refine nw_block ?_
        | (refine nw_yes ?_ ?_; focus (simp [c]; done))
        | (refine nw_no ?_ ?_; focus (simp [c]; done))
        | refine nw_skip ?_
        | refine nw_exit ?_
        | refine nw_ret ?_)
      simp [c]
      exact Fr.up hf hf'
    ·
      repeat (first
        | (refine nw_seq (nw_region fun K hK => ?_); simp [c]; refine hK _ _ ?_; clear hK K)
        | (refine nw_region fun K hK => ?_; simp [c]; refine hK _ _ ?_; clear hK K)
        | refine nw_seq ?_
        | refine nw_block ?_
        | (refine nw_yes ?_ ?_; focus (simp [c]; done))
        | (refine nw_no ?_ ?_; focus (simp [c]; done))
        | refine nw_skip ?_
        | refine nw_exit ?_
        | refine nw_ret ?_)
      simp [c]
      exact Fr.up hf hf'

theorem right_ok (xs : List Nd) {w : Bool} {d len : Int} (hj : Judged xs w d len) (α : AH) (v : Value) (h : Nodes α v xs) (hl : xs.length ≤ 1000000000) :
    NCalls Try.prog 27 [v] α (fun r α' => r = .int .i64 (rightM xs.length w d len) ∧ Fr α.n α α') := by
  obtain ⟨id, off, hlen, hidx, hld⟩ := h.rd (t := 49) Try.underlying49 sz55
  refine ncalls_of (by kernel_rfl) Try.func27 rfl (by rw [Try.ntmps27]; simp) ?_
  rw [Try.ntmps27, Try.results27]
  repeat (first
    | (refine nw_seq (nw_region fun K hK => ?_); simp []; refine hK _ _ ?_; clear hK K)
    | (refine nw_region fun K hK => ?_; simp []; refine hK _ _ ?_; clear hK K)
    | refine nw_seq ?_
    | refine nw_block ?_
    | (refine nw_yes ?_ ?_; focus (simp []; done))
    | (refine nw_no ?_ ?_; focus (simp []; done))
    | refine nw_skip ?_
    | refine nw_exit ?_
    | refine nw_ret ?_)
  refine nw_region fun K hK => ?_
  simp []
  refine (length_ok xs hj _ v h hl).mono fun r β hr => ?_
  obtain ⟨rfl, hf⟩ := hr
  simp [contK, ]
  refine hK _ _ ?_
  clear hK K
  by_cases c1 : 128 < (xs.length : Int)
  ·
    repeat (first
      | (refine nw_seq (nw_region fun K hK => ?_); simp [hlen, c1]; refine hK _ _ ?_; clear hK K)
      | (refine nw_region fun K hK => ?_; simp [hlen, c1]; refine hK _ _ ?_; clear hK K)
      | refine nw_seq ?_
      | refine nw_block ?_
      | (refine nw_yes ?_ ?_; focus (simp [hlen, c1]; done))
      | (refine nw_no ?_ ?_; focus (simp [hlen, c1]; done))
      | refine nw_skip ?_
      | refine nw_exit ?_
      | refine nw_ret ?_)
    simp [rightM, c1, hf]
  ·
    repeat (first
      | (refine nw_seq (nw_region fun K hK => ?_); simp [hlen, c1]; refine hK _ _ ?_; clear hK K)
      | (refine nw_region fun K hK => ?_; simp [hlen, c1]; refine hK _ _ ?_; clear hK K)
      | refine nw_seq ?_
      | refine nw_block ?_
      | (refine nw_yes ?_ ?_; focus (simp [hlen, c1]; done))
      | (refine nw_no ?_ ?_; focus (simp [hlen, c1]; done))
      | refine nw_skip ?_
      | refine nw_exit ?_
      | refine nw_ret ?_)
    refine nw_region fun K hK => ?_
    simp []
    refine (wh_ok xs hj _ v (h.fr hf) hl).mono fun r β' hr => ?_
    obtain ⟨rfl, hf'⟩ := hr
    have hf := Fr.up hf hf'
    simp [contK, ]
    refine hK _ _ ?_
    clear hK K
    cases w with
    | false =>
      repeat (first
        | (refine nw_seq (nw_region fun K hK => ?_); simp []; refine hK _ _ ?_; clear hK K)
        | (refine nw_region fun K hK => ?_; simp []; refine hK _ _ ?_; clear hK K)
        | refine nw_seq ?_
        | refine nw_block ?_
        | (refine nw_yes ?_ ?_; focus (simp []; done))
        | (refine nw_no ?_ ?_; focus (simp []; done))
        | refine nw_skip ?_
        | refine nw_exit ?_
        | refine nw_ret ?_)
      simp [rightM, c1, hf]
    | true =>
      repeat (first
        | (refine nw_seq (nw_region fun K hK => ?_); simp []; refine hK _ _ ?_; clear hK K)
        | (refine nw_region fun K hK => ?_; simp []; refine hK _ _ ?_; clear hK K)
        | refine nw_seq ?_
        | refine nw_block ?_
        | (refine nw_yes ?_ ?_; focus (simp []; done))
        | (refine nw_no ?_ ?_; focus (simp []; done))
        | refine nw_skip ?_
        | refine nw_exit ?_
        | refine nw_ret ?_)
      refine nw_region fun K hK => ?_
      simp []
      refine (depth_ok xs hj _ v (h.fr hf) hl).mono fun r β' hr => ?_
      obtain ⟨rfl, hf'⟩ := hr
      have hf := Fr.up hf hf'
      simp [contK, ]
      refine hK _ _ ?_
      clear hK K
      by_cases c2 : 16 < d
      ·
        repeat (first
          | (refine nw_seq (nw_region fun K hK => ?_); simp [c2]; refine hK _ _ ?_; clear hK K)
          | (refine nw_region fun K hK => ?_; simp [c2]; refine hK _ _ ?_; clear hK K)
          | refine nw_seq ?_
          | refine nw_block ?_
          | (refine nw_yes ?_ ?_; focus (simp [c2]; done))
          | (refine nw_no ?_ ?_; focus (simp [c2]; done))
          | refine nw_skip ?_
          | refine nw_exit ?_
          | refine nw_ret ?_)
        simp [rightM, c1, c2, hf]
      · by_cases c3 : len ≤ 4096
        · have c3' : ¬ (4096 < len) := by omega
          repeat (first
            | (refine nw_seq (nw_region fun K hK => ?_); simp [c2, c3]; refine hK _ _ ?_; clear hK K)
            | (refine nw_region fun K hK => ?_; simp [c2, c3]; refine hK _ _ ?_; clear hK K)
            | refine nw_seq ?_
            | refine nw_block ?_
            | (refine nw_yes ?_ ?_; focus (simp [c2, c3]; done))
            | (refine nw_no ?_ ?_; focus (simp [c2, c3]; done))
            | refine nw_skip ?_
            | refine nw_exit ?_
            | refine nw_ret ?_)
          simp [rightM, c1, c2, c3', hf]
        · have c3' : 4096 < len := by omega
          repeat (first
            | (refine nw_seq (nw_region fun K hK => ?_); simp [c2, c3]; refine hK _ _ ?_; clear hK K)
            | (refine nw_region fun K hK => ?_; simp [c2, c3]; refine hK _ _ ?_; clear hK K)
            | refine nw_seq ?_
            | refine nw_block ?_
            | (refine nw_yes ?_ ?_; focus (simp [c2, c3]; done))
            | (refine nw_no ?_ ?_; focus (simp [c2, c3]; done))
            | refine nw_skip ?_
            | refine nw_exit ?_
            | refine nw_ret ?_)
          simp [rightM, c1, c2, c3', hf]
end Go.Proofs.Ytggkeldedennfaa

set_option linter.unusedVariables false
set_option linter.unusedSimpArgs false
namespace Go.Proofs.Ytggkeldedennfaa
open Go Go.RowKit Go.Lay Go.Nod

theorem take_next {τ : Type} {xs ys : List τ} {i : Nat} (h : xs.take i = ys.take i) (hx : i < xs.length) (hy : i < ys.length) (he : xs[i] = ys[i]) : xs.take (i + 1) = ys.take (i + 1) := by
  rw [List.take_succ_eq_append_getElem hx, List.take_succ_eq_append_getElem hy, h, he]

set_option maxRecDepth 100000 in
set_option maxHeartbeats 1000000 in
theorem equal_ok (xs ys : List Nd) (α : AH) (v u : Value) (h : Nodes α v xs) (k : Nodes α u ys) (hl : xs.length ≤ 1000000000000) :
    NCalls Try.prog 64 [v, u] α (fun r α' => r = .bool (decide (xs = ys)) ∧ α' = α) := by
  obtain ⟨id, off, hlen, hidx, hld⟩ := h.rd (t := 49) Try.underlying49 sz55
  obtain ⟨id', off', klen, kidx, kld⟩ := k.rd (t := 49) Try.underlying49 sz55
  have hk3 : nodeK.sz = 3 := rfl
  rw [hk3] at hidx hld kidx kld
  refine ncalls_of (by kernel_rfl) Try.func64 rfl (by rw [Try.ntmps64]; simp) ?_
  rw [Try.ntmps64, Try.results64]
  by_cases c1 : xs.length = ys.length
  case neg =>
    have c1' : ¬ ((xs.length : Int) = ys.length) := by omega
    have : xs ≠ ys := fun h => c1 (by rw [h])
    repeat (first
      | (refine nw_seq (nw_region fun K hK => ?_); simp [hlen, klen, c1, c1']; refine hK _ _ ?_; clear hK K)
      | (refine nw_region fun K hK => ?_; simp [hlen, klen, c1, c1']; refine hK _ _ ?_; clear hK K)
      | refine nw_seq ?_
      | refine nw_block ?_
      | (refine nw_yes ?_ ?_; focus (simp [hlen, klen, c1, c1']; done))
      | (refine nw_no ?_ ?_; focus (simp [hlen, klen, c1, c1']; done))
      | refine nw_skip ?_
      | refine nw_exit ?_
      | refine nw_ret ?_)
    simp [this]
  have c1' : (ys.length : Int) = xs.length := by omega
  repeat (first
    | (refine nw_seq (nw_region fun K hK => ?_); simp [hlen, klen, c1, c1']; refine hK _ _ ?_; clear hK K)
    | (refine nw_region fun K hK => ?_; simp [hlen, klen, c1, c1']; refine hK _ _ ?_; clear hK K)
    | refine nw_seq ?_
    | refine nw_block ?_
    | (refine nw_yes ?_ ?_; focus (simp [hlen, klen, c1, c1']; done))
    | (refine nw_no ?_ ?_; focus (simp [hlen, klen, c1, c1']; done))
    | refine nw_skip ?_
    | refine nw_exit ?_
    | refine nw_ret ?_)
  refine nw_loop (fun n s α' => ∃ (i : Nat), n = xs.length - i ∧ i ≤ xs.length ∧ s 0 = v ∧ s 1 = u ∧ s 12 = .int .i64 (xs.length : Int) ∧ s 13 = .int .i64 (i : Int) ∧ α' = α ∧ xs.take i = ys.take i)
    xs.length ⟨0, rfl, by omega, by simp, by simp, by simp [c1], by simp, rfl, by simp⟩ ?_
  rintro n s α' ⟨i, rfl, hi, s0, s1, s12, s13, rfl, ht⟩
  by_cases c3 : i < xs.length
  · have d3 : i < ys.length := by omega
    obtain ⟨b, hb, hfit, hR⟩ := hld _ (.refl _ _) i c3
    obtain ⟨b', kb, kfit, kR⟩ := kld _ (.refl _ _) i d3
    have hR : (b.cells.drop (off + i * 3)).take 3 = xs[i].enc := hR
    have kR : (b'.cells.drop (off' + i * 3)).take 3 = ys[i].enc := kR
    have hix := hidx .i64 i c3
    have kix := kidx .i64 i d3
    have e1 : IntKind.i64.wrap ((i : Int) + 1) = (i : Int) + 1 := w64 (by omega)
    generalize hx : xs[i] = x at *
    generalize hy : ys[i] = y at *
    repeat (first
      | (refine nw_seq (nw_region fun K hK => ?_); simp [s12, s13, c3]; refine hK _ _ ?_; clear hK K)
      | (refine nw_region fun K hK => ?_; simp [s12, s13, c3]; refine hK _ _ ?_; clear hK K)
      | refine nw_seq ?_
      | refine nw_block ?_
      | (refine nw_yes ?_ ?_; focus (simp [s12, s13, c3]; done))
      | (refine nw_no ?_ ?_; focus (simp [s12, s13, c3]; done))
      | refine nw_skip ?_
      | refine nw_exit ?_
      | refine nw_ret ?_)
    by_cases a1 : x.k = y.k
    case neg =>
      have b1 : (x.k == y.k) = false := by simpa using a1
      have : xs ≠ ys := fun h => by subst h; rw [← hx, ← hy] at a1; exact a1 rfl
      refine nw_draw (.take 0 (.take 1 (.take 2 (.take 3 (.take 4 (.take 5 (.take 6 (.take 7 (.take 8 (.done)))))))))) mixd (by kernel_rfl) fun K hK => ?_
      simp [s0, s1, hix, kix, hb, kb, hfit, kfit, hR, kR, Nd.enc, b1]
      refine hK _ _ ?_
      clear hK K
      repeat (first
        | (refine nw_seq (nw_region fun K hK => ?_); simp []; refine hK _ _ ?_; clear hK K)
        | (refine nw_region fun K hK => ?_; simp []; refine hK _ _ ?_; clear hK K)
        | refine nw_seq ?_
        | refine nw_block ?_
        | (refine nw_yes ?_ ?_; focus (simp []; done))
        | (refine nw_no ?_ ?_; focus (simp []; done))
        | refine nw_skip ?_
        | refine nw_exit ?_
        | refine nw_ret ?_)
      simp [this]
    by_cases a2 : x.p = y.p
    case neg =>
      have b2 : (x.p == y.p) = false := by simpa using a2
      have : xs ≠ ys := fun h => by subst h; rw [← hx, ← hy] at a2; exact a2 rfl
      refine nw_draw (.take 0 (.take 1 (.take 2 (.take 3 (.take 4 (.take 5 (.take 6 (.take 7 (.take 8 (.done)))))))))) mixd (by kernel_rfl) fun K hK => ?_
      simp [s0, s1, hix, kix, hb, kb, hfit, kfit, hR, kR, Nd.enc, a1, b2]
      refine hK _ _ ?_
      clear hK K
      repeat (first
        | (refine nw_seq (nw_region fun K hK => ?_); simp []; refine hK _ _ ?_; clear hK K)
        | (refine nw_region fun K hK => ?_; simp []; refine hK _ _ ?_; clear hK K)
        | refine nw_seq ?_
        | refine nw_block ?_
        | (refine nw_yes ?_ ?_; focus (simp []; done))
        | (refine nw_no ?_ ?_; focus (simp []; done))
        | refine nw_skip ?_
        | refine nw_exit ?_
        | refine nw_ret ?_)
      simp [this]
    by_cases a3 : x.n = y.n
    case neg =>
      have b3 : (x.n == y.n) = false := by simpa using a3
      have : xs ≠ ys := fun h => by subst h; rw [← hx, ← hy] at a3; exact a3 rfl
      refine nw_draw (.take 0 (.take 1 (.take 2 (.take 3 (.take 4 (.take 5 (.take 6 (.take 7 (.take 8 (.done)))))))))) mixd (by kernel_rfl) fun K hK => ?_
      simp [s0, s1, hix, kix, hb, kb, hfit, kfit, hR, kR, Nd.enc, a1, a2, b3]
      refine hK _ _ ?_
      clear hK K
      repeat (first
        | (refine nw_seq (nw_region fun K hK => ?_); simp []; refine hK _ _ ?_; clear hK K)
        | (refine nw_region fun K hK => ?_; simp []; refine hK _ _ ?_; clear hK K)
        | refine nw_seq ?_
        | refine nw_block ?_
        | (refine nw_yes ?_ ?_; focus (simp []; done))
        | (refine nw_no ?_ ?_; focus (simp []; done))
        | refine nw_skip ?_
        | refine nw_exit ?_
        | refine nw_ret ?_)
      simp [this]
    have hxy : x = y := by cases x; cases y; simp_all
    refine nw_draw (.take 0 (.take 1 (.take 2 (.take 3 (.take 4 (.take 5 (.take 6 (.take 7 (.take 8 (.done)))))))))) mixd (by kernel_rfl) fun K hK => ?_
    simp [s0, s1, hix, kix, hb, kb, hfit, kfit, hR, kR, Nd.enc, a1, a2, a3]
    refine hK _ _ ?_
    clear hK K
    repeat (first
      | (refine nw_seq (nw_region fun K hK => ?_); simp [s13, e1]; refine hK _ _ ?_; clear hK K)
      | (refine nw_region fun K hK => ?_; simp [s13, e1]; refine hK _ _ ?_; clear hK K)
      | refine nw_seq ?_
      | refine nw_block ?_
      | (refine nw_yes ?_ ?_; focus (simp [s13, e1]; done))
      | (refine nw_no ?_ ?_; focus (simp [s13, e1]; done))
      | refine nw_skip ?_
      | refine nw_exit ?_
      | refine nw_ret ?_)
    exact ⟨xs.length - (i + 1), by omega, i + 1, rfl, by omega, by simp [s0], by simp [s1], by simp [s12], by simp, rfl, take_next ht c3 d3 (by rw [hx, hy, hxy])⟩
  · have : i = xs.length := by omega
    have hxy : xs = ys := by
      subst this
      rw [List.take_length, c1, List.take_length] at ht
      exact ht
    repeat (first
      | (refine nw_seq (nw_region fun K hK => ?_); simp [s12, s13, c3]; refine hK _ _ ?_; clear hK K)
      | (refine nw_region fun K hK => ?_; simp [s12, s13, c3]; refine hK _ _ ?_; clear hK K)
      | refine nw_seq ?_
      | refine nw_block ?_
      | (refine nw_yes ?_ ?_; focus (simp [s12, s13, c3]; done))
      | (refine nw_no ?_ ?_; focus (simp [s12, s13, c3]; done))
      | refine nw_skip ?_
      | refine nw_exit ?_
      | refine nw_ret ?_)
    simp [hxy]

set_option maxRecDepth 100000 in
theorem bookSame_ok (xs ys : List Int) (α : AH) (v u : Value) (h : Sl 3 (intK .i64) α v xs) (k : Sl 3 (intK .i64) α u ys) (hl : xs.length ≤ 1000000000000) :
    NCalls Try.prog 39 [v, u] α (fun r α' => r = .bool (decide (xs = ys)) ∧ α' = α) := by
  obtain ⟨id, off, hlen, hidx, hld⟩ := h.rd (t := 28) Try.underlying28 sz3
  obtain ⟨id', off', klen, kidx, kld⟩ := k.rd (t := 28) Try.underlying28 sz3
  have hk3 : (intK .i64).sz = 1 := rfl
  rw [hk3] at hidx hld kidx kld
  refine ncalls_of (by kernel_rfl) Try.func39 rfl (by rw [Try.ntmps39]; simp) ?_
  rw [Try.ntmps39, Try.results39]
  by_cases c1 : xs.length = ys.length
  case neg =>
    have c1' : ¬ ((xs.length : Int) = ys.length) := by omega
    have : xs ≠ ys := fun h => c1 (by rw [h])
    repeat (first
      | (refine nw_seq (nw_region fun K hK => ?_); simp [hlen, klen, c1, c1']; refine hK _ _ ?_; clear hK K)
      | (refine nw_region fun K hK => ?_; simp [hlen, klen, c1, c1']; refine hK _ _ ?_; clear hK K)
      | refine nw_seq ?_
      | refine nw_block ?_
      | (refine nw_yes ?_ ?_; focus (simp [hlen, klen, c1, c1']; done))
      | (refine nw_no ?_ ?_; focus (simp [hlen, klen, c1, c1']; done))
      | refine nw_skip ?_
      | refine nw_exit ?_
      | refine nw_ret ?_)
    simp [this]
  have c1' : (ys.length : Int) = xs.length := by omega
  repeat (first
    | (refine nw_seq (nw_region fun K hK => ?_); simp [hlen, klen, c1, c1']; refine hK _ _ ?_; clear hK K)
    | (refine nw_region fun K hK => ?_; simp [hlen, klen, c1, c1']; refine hK _ _ ?_; clear hK K)
    | refine nw_seq ?_
    | refine nw_block ?_
    | (refine nw_yes ?_ ?_; focus (simp [hlen, klen, c1, c1']; done))
    | (refine nw_no ?_ ?_; focus (simp [hlen, klen, c1, c1']; done))
    | refine nw_skip ?_
    | refine nw_exit ?_
    | refine nw_ret ?_)
  refine nw_loop (fun n s α' => ∃ (i : Nat), n = xs.length - i ∧ i ≤ xs.length ∧ s 0 = v ∧ s 1 = u ∧ s 5 = .int .i64 (i : Int) ∧ α' = α ∧ xs.take i = ys.take i)
    xs.length ⟨0, rfl, by omega, by simp, by simp, by simp, rfl, by simp⟩ ?_
  rintro n s α' ⟨i, rfl, hi, s0, s1, s5, rfl, ht⟩
  by_cases c3 : i < xs.length
  · have d3 : i < ys.length := by omega
    obtain ⟨b, hb, hfit, hR⟩ := hld _ (.refl _ _) i c3
    obtain ⟨b', kb, kfit, kR⟩ := kld _ (.refl _ _) i d3
    have hR : b.cells[off + i * 1]? = some (.int .i64 xs[i]) := take_get hR (j := 0) (by simp)
    have kR : b'.cells[off' + i * 1]? = some (.int .i64 ys[i]) := take_get kR (j := 0) (by simp)
    have hix := hidx .i64 i c3
    have kix := kidx .i64 i d3
    simp only [Nat.mul_one] at hR kR hix kix
    have e1 : IntKind.i64.wrap ((i : Int) + 1) = (i : Int) + 1 := w64 (by omega)
    repeat (first
      | (refine nw_seq (nw_region fun K hK => ?_); simp [s0, s5, hlen, c3]; refine hK _ _ ?_; clear hK K)
      | (refine nw_region fun K hK => ?_; simp [s0, s5, hlen, c3]; refine hK _ _ ?_; clear hK K)
      | refine nw_seq ?_
      | refine nw_block ?_
      | (refine nw_yes ?_ ?_; focus (simp [s0, s5, hlen, c3]; done))
      | (refine nw_no ?_ ?_; focus (simp [s0, s5, hlen, c3]; done))
      | refine nw_skip ?_
      | refine nw_exit ?_
      | refine nw_ret ?_)
    by_cases a1 : xs[i] = ys[i]
    case neg =>
      have : xs ≠ ys := fun h => a1 (by subst h; rfl)
      have b1 : (xs[i] == ys[i]) = false := by simpa using a1
      have b2 : (xs[i] != ys[i]) = true := by simpa using a1
      refine nw_draw (.take 0 (.take 1 (.take 2 (.take 3 (.take 4 (.take 5 (.take 6 (.take 7 (.take 8 (.done)))))))))) mixd (by kernel_rfl) fun K hK => ?_
      simp [s0, s1, s5, hix, kix, hb, kb, hR, kR, b1, b2]
      refine hK _ _ ?_
      clear hK K
      repeat (first
        | (refine nw_seq (nw_region fun K hK => ?_); simp []; refine hK _ _ ?_; clear hK K)
        | (refine nw_region fun K hK => ?_; simp []; refine hK _ _ ?_; clear hK K)
        | refine nw_seq ?_
        | refine nw_block ?_
        | (refine nw_yes ?_ ?_; focus (simp []; done))
        | (refine nw_no ?_ ?_; focus (simp []; done))
        | refine nw_skip ?_
        | refine nw_exit ?_
        | refine nw_ret ?_)
      simp [this]
    refine nw_draw (.take 0 (.take 1 (.take 2 (.take 3 (.take 4 (.take 5 (.take 6 (.take 7 (.take 8 (.done)))))))))) mixd (by kernel_rfl) fun K hK => ?_
    simp [s0, s1, s5, hix, kix, hb, kb, hR, kR, a1]
    refine hK _ _ ?_
    clear hK K
    repeat (first
      | (refine nw_seq (nw_region fun K hK => ?_); simp [s5, e1]; refine hK _ _ ?_; clear hK K)
      | (refine nw_region fun K hK => ?_; simp [s5, e1]; refine hK _ _ ?_; clear hK K)
      | refine nw_seq ?_
      | refine nw_block ?_
      | (refine nw_yes ?_ ?_; focus (simp [s5, e1]; done))
      | (refine nw_no ?_ ?_; focus (simp [s5, e1]; done))
      | refine nw_skip ?_
      | refine nw_exit ?_
      | refine nw_ret ?_)
    exact ⟨xs.length - (i + 1), by omega, i + 1, rfl, by omega, by simp [s0], by simp [s1], by simp, rfl, take_next ht c3 d3 a1⟩
  · have : i = xs.length := by omega
    have hxy : xs = ys := by
      subst this
      rw [List.take_length, c1, List.take_length] at ht
      exact ht
    repeat (first
      | (refine nw_seq (nw_region fun K hK => ?_); simp [s0, s5, hlen, c3]; refine hK _ _ ?_; clear hK K)
      | (refine nw_region fun K hK => ?_; simp [s0, s5, hlen, c3]; refine hK _ _ ?_; clear hK K)
      | refine nw_seq ?_
      | refine nw_block ?_
      | (refine nw_yes ?_ ?_; focus (simp [s0, s5, hlen, c3]; done))
      | (refine nw_no ?_ ?_; focus (simp [s0, s5, hlen, c3]; done))
      | refine nw_skip ?_
      | refine nw_exit ?_
      | refine nw_ret ?_)
    simp [hxy]

theorem same_ok (xs : List Nd) (α : AH) (v : Value) (h : Nodes α v xs) (hl : xs.length ≤ 1000000000000) :
    NCalls Try.prog 50 [v, v] α (fun r α' => r = .bool true ∧ α' = α) := by
  refine ncalls_of (by kernel_rfl) Try.func50 rfl (by rw [Try.ntmps50]; simp) ?_
  rw [Try.ntmps50, Try.results50]
  repeat (first
    | (refine nw_seq (nw_region fun K hK => ?_); simp []; refine hK _ _ ?_; clear hK K)
    | (refine nw_region fun K hK => ?_; simp []; refine hK _ _ ?_; clear hK K)
    | refine nw_seq ?_
    | refine nw_block ?_
    | (refine nw_yes ?_ ?_; focus (simp []; done))
    | (refine nw_no ?_ ?_; focus (simp []; done))
    | refine nw_skip ?_
    | refine nw_exit ?_
    | refine nw_ret ?_)
  refine nw_region fun K hK => ?_
  simp []
  refine (equal_ok xs xs _ v v h h hl).mono fun r β hr => ?_
  obtain ⟨rfl, rfl⟩ := hr
  simp [contK, ]
  refine hK _ _ ?_
  clear hK K
  repeat (first
    | (refine nw_seq (nw_region fun K hK => ?_); simp []; refine hK _ _ ?_; clear hK K)
    | (refine nw_region fun K hK => ?_; simp []; refine hK _ _ ?_; clear hK K)
    | refine nw_seq ?_
    | refine nw_block ?_
    | (refine nw_yes ?_ ?_; focus (simp []; done))
    | (refine nw_no ?_ ?_; focus (simp []; done))
    | refine nw_skip ?_
    | refine nw_exit ?_
    | refine nw_ret ?_)
  simp
end Go.Proofs.Ytggkeldedennfaa

set_option linter.unusedVariables false
set_option linter.unusedSimpArgs false
namespace Go.Proofs.Ytggkeldedennfaa
open Go Go.RowKit Go.Lay Go.Nod

set_option maxHeartbeats 1000000 in
theorem fine_ok (x : Nd) (α : AH) :
    NCalls Try.prog 63 [.agg #[.int .i64 x.k, .int .i64 x.p, .int .i64 x.n]] α (fun v α' => v = .bool (decide (0 ≤ kidsM x)) ∧ Fr α.n α α') := by
  obtain ⟨k, p, n⟩ := x
  have hfr : ∀ b, Fr α.n α (α.alloc b) := fun b => (Fr.refl _ _).alloc (Nat.le_refl _) b
  refine ncalls_of (by kernel_rfl) Try.func63 rfl (by rw [Try.ntmps63]; simp) ?_
  rw [Try.ntmps63, Try.results63]
  obtain ⟨a1, b1⟩ | ⟨a1, b1⟩ : (n < 1 ∧ ¬ 1 ≤ n) ∨ (¬ n < 1 ∧ 1 ≤ n) := by omega
  all_goals
    by_cases c2 : k = 1 <;> by_cases c3 : p = 0 <;> by_cases c4 : k = 2 <;> by_cases c5 : k = 3 <;> by_cases c6 : k = 4 <;> by_cases c7 : 0 ≤ p <;> by_cases c8 : p < 6 <;> by_cases c9 : n ≤ 128 <;> first | (exfalso; omega) | skip
  all_goals
    repeat (first
      | (refine nw_seq (nw_region fun K hK => ?_); simp [a1, b1, c2, c3, c4, c5, c6, c7, c8, c9]; refine hK _ _ ?_; clear hK K)
      | (refine nw_region fun K hK => ?_; simp [a1, b1, c2, c3, c4, c5, c6, c7, c8, c9]; refine hK _ _ ?_; clear hK K)
      | refine nw_seq ?_
      | refine nw_block ?_
      | (refine nw_yes ?_ ?_; focus (simp [a1, b1, c2, c3, c4, c5, c6, c7, c8, c9]; done))
      | (refine nw_no ?_ ?_; focus (simp [a1, b1, c2, c3, c4, c5, c6, c7, c8, c9]; done))
      | refine nw_skip ?_
      | refine nw_exit ?_
      | refine nw_ret ?_)
  all_goals (simp [kidsM, a1, b1, c2, c3, c4, c5, c6, c7, c8, c9]; try exact hfr _)
  all_goals (first | omega | exact ⟨by omega, hfr _⟩)
end Go.Proofs.Ytggkeldedennfaa

set_option linter.unusedVariables false
set_option linter.unusedSimpArgs false
namespace Go.Nod
theorem kids_val {x : Nd} (h : 0 ≤ kidsM x) : (x.k = 3 → kidsM x = x.n) ∧ (x.k = 4 → kidsM x = 1) ∧ (x.k ≠ 3 → x.k ≠ 4 → kidsM x = 0) := by
  unfold kidsM at h ⊢
  split at h
  · omega
  · next c1 =>
    rw [if_neg c1]
    refine ⟨fun hk => ?_, fun hk => ?_, fun h3 h4 => ?_⟩
    · rw [if_neg (by omega)] at h ⊢
      split at h
      · next c2 => rw [if_pos c2]
      · rw [if_neg (by omega)] at h; omega
    · rw [if_neg (by omega), if_neg (by omega), if_pos hk]
    · split at h
      · next c2 => rw [if_pos c2]
      · rw [if_neg (by omega)] at h; omega
end Go.Nod
namespace Go.Proofs.Ytggkeldedennfaa
open Go Go.RowKit Go.Lay Go.Nod

set_option maxRecDepth 100000 in
set_option maxHeartbeats 1000000 in
theorem refSize_ok (xs : List Nd) (at_ : Int) (α : AH) (v : Value) (h : Nodes α v xs) (hl : xs.length ≤ 1000000000000) :
    NCalls Try.prog 48 [v, .int .i64 at_] α (fun r α' => r = .int .i64 (sizeM xs at_) ∧ Fr α.n α α') := by
  obtain ⟨id, off, hlen, hidx, hld⟩ := h.rd (t := 49) Try.underlying49 sz55
  refine ncalls_of (by kernel_rfl) Try.func48 rfl (by rw [Try.ntmps48]; simp) ?_
  rw [Try.ntmps48, Try.results48]
  by_cases c1 : at_ < 0
  ·
    repeat (first
      | (refine nw_seq (nw_region fun K hK => ?_); simp [hlen, c1]; refine hK _ _ ?_; clear hK K)
      | (refine nw_region fun K hK => ?_; simp [hlen, c1]; refine hK _ _ ?_; clear hK K)
      | refine nw_seq ?_
      | refine nw_block ?_
      | (refine nw_yes ?_ ?_; focus (simp [hlen, c1]; done))
      | (refine nw_no ?_ ?_; focus (simp [hlen, c1]; done))
      | refine nw_skip ?_
      | refine nw_exit ?_
      | refine nw_ret ?_)
    simp [sizeM, c1, Fr.refl]
  by_cases c2 : (xs.length : Int) ≤ at_
  · have c1' : 0 ≤ at_ := by omega
    repeat (first
      | (refine nw_seq (nw_region fun K hK => ?_); simp [hlen, c1, c2, c1']; refine hK _ _ ?_; clear hK K)
      | (refine nw_region fun K hK => ?_; simp [hlen, c1, c2, c1']; refine hK _ _ ?_; clear hK K)
      | refine nw_seq ?_
      | refine nw_block ?_
      | (refine nw_yes ?_ ?_; focus (simp [hlen, c1, c2, c1']; done))
      | (refine nw_no ?_ ?_; focus (simp [hlen, c1, c2, c1']; done))
      | refine nw_skip ?_
      | refine nw_exit ?_
      | refine nw_ret ?_)
    simp [sizeM, c1, c2, Fr.refl]
  have c1' : 0 ≤ at_ := by omega
  have c2' : at_ < xs.length := by omega
  repeat (first
    | (refine nw_seq (nw_region fun K hK => ?_); simp [hlen, c1, c2, c1', c2']; refine hK _ _ ?_; clear hK K)
    | (refine nw_region fun K hK => ?_; simp [hlen, c1, c2, c1', c2']; refine hK _ _ ?_; clear hK K)
    | refine nw_seq ?_
    | refine nw_block ?_
    | (refine nw_yes ?_ ?_; focus (simp [hlen, c1, c2, c1', c2']; done))
    | (refine nw_no ?_ ?_; focus (simp [hlen, c1, c2, c1', c2']; done))
    | refine nw_skip ?_
    | refine nw_exit ?_
    | refine nw_ret ?_)
  have hk3 : nodeK.sz = 3 := rfl
  rw [hk3] at hidx hld
  refine nw_loop (fun n s α' => ∃ (i : Nat) (left : Int), n = xs.length - i ∧ i ≤ xs.length ∧ at_ ≤ i ∧ s 0 = v ∧ s 1 = .int .i64 at_ ∧ s 5 = .int .i64 left ∧ s 6 = .int .i64 (i : Int) ∧ Fr α.n α α' ∧ 1 ≤ left ∧ left ≤ 1 + 128 * i ∧ sizeM xs at_ = sizeGo (xs.drop i) left (i - at_))
    (xs.length - at_.toNat) ⟨at_.toNat, 1, rfl, by omega, by omega, by simp, by simp, by simp, by simp; omega, .refl _ _, by omega, by omega, ?_⟩ ?_
  · rw [sizeM, if_neg (by omega)]; congr 1; omega
  rintro n s α' ⟨i, left, rfl, hi, ha, s0, s1, s5, s6, hf, hb1, hb2, hm⟩
  by_cases c3 : i < xs.length
  · obtain ⟨b, hb, hfit, hR⟩ := hld α' hf i c3
    have hR : (b.cells.drop (off + i * 3)).take 3 = xs[i].enc := hR
    have hix := hidx .i64 i c3
    have hk := kidsM_bd xs[i]
    have hgo : sizeGo (xs.drop i) left (i - at_) = if kidsM xs[i] < 0 then 0 else if left + (kidsM xs[i] - 1) = 0 then i - at_ + 1 else sizeGo (xs.drop (i + 1)) (left + (kidsM xs[i] - 1)) (i - at_ + 1) := by
      rw [List.drop_eq_getElem_cons c3, sizeGo]
    repeat (first
      | (refine nw_seq (nw_region fun K hK => ?_); simp [s0, s6, hlen, c3]; refine hK _ _ ?_; clear hK K)
      | (refine nw_region fun K hK => ?_; simp [s0, s6, hlen, c3]; refine hK _ _ ?_; clear hK K)
      | refine nw_seq ?_
      | refine nw_block ?_
      | (refine nw_yes ?_ ?_; focus (simp [s0, s6, hlen, c3]; done))
      | (refine nw_no ?_ ?_; focus (simp [s0, s6, hlen, c3]; done))
      | refine nw_skip ?_
      | refine nw_exit ?_
      | refine nw_ret ?_)
    refine nw_region fun K hK => ?_
    simp [s0, s6, hix, hb, hfit, hR, Nd.enc]
    refine (fine_ok _ _).mono fun r β hr => ?_
    obtain ⟨rfl, hfb'⟩ := hr
    have hfb := Fr.up hf hfb'
    simp [contK, ]
    refine hK _ _ ?_
    clear hK K
    obtain ⟨b2, hb2, _, hR2⟩ := hld β hfb i c3
    have x0 : b2.cells[off + i * 3]? = some (.int .i64 xs[i].k) := take_get hR2 (j := 0) (show 0 < 3 by decide)
    have x2 : b2.cells[off + i * 3 + 2]? = some (.int .i64 xs[i].n) := take_get hR2 (j := 2) (show 2 < 3 by decide)
    generalize hx : xs[i] = x at *
    by_cases c4 : kidsM x < 0
    · have c4' : ¬ (0 ≤ kidsM x) := by omega
      repeat (first
        | (refine nw_seq (nw_region fun K hK => ?_); simp [c4']; refine hK _ _ ?_; clear hK K)
        | (refine nw_region fun K hK => ?_; simp [c4']; refine hK _ _ ?_; clear hK K)
        | refine nw_seq ?_
        | refine nw_block ?_
        | (refine nw_yes ?_ ?_; focus (simp [c4']; done))
        | (refine nw_no ?_ ?_; focus (simp [c4']; done))
        | refine nw_skip ?_
        | refine nw_exit ?_
        | refine nw_ret ?_)
      simp [hm, hgo, c4, hfb]
    have c4' : 0 ≤ kidsM x := by omega
    obtain ⟨k1, k2, k3⟩ := kids_val c4'
    have e1 : IntKind.i64.wrap (left - 1) = left - 1 := w64 (by omega)
    have e3 : IntKind.i64.wrap ((i : Int) + 1) = (i : Int) + 1 := w64 (by omega)
    have e4 : IntKind.i64.wrap ((i : Int) - at_) = (i : Int) - at_ := w64 (by omega)
    have e5 : IntKind.i64.wrap ((i : Int) - at_ + 1) = (i : Int) - at_ + 1 := w64 (by omega)
    repeat (first
      | (refine nw_seq (nw_region fun K hK => ?_); simp [c4', s5, e1, s0, s6, hix, hb2, x0]; refine hK _ _ ?_; clear hK K)
      | (refine nw_region fun K hK => ?_; simp [c4', s5, e1, s0, s6, hix, hb2, x0]; refine hK _ _ ?_; clear hK K)
      | refine nw_seq ?_
      | refine nw_block ?_
      | (refine nw_yes ?_ ?_; focus (simp [c4', s5, e1, s0, s6, hix, hb2, x0]; done))
      | (refine nw_no ?_ ?_; focus (simp [c4', s5, e1, s0, s6, hix, hb2, x0]; done))
      | refine nw_skip ?_
      | refine nw_exit ?_
      | refine nw_ret ?_)
    refine nw_cut (J := fun s γ => γ = β ∧ s 0 = v ∧ s 1 = .int .i64 at_ ∧ s 5 = .int .i64 (left - 1 + (if x.k = 3 then x.n else 0)) ∧ s 6 = .int .i64 (i : Int)) ?_ ?_
    · by_cases d3 : x.k = 3
      · have hn := k1 d3
        have e6 : IntKind.i64.wrap (left - 1 + x.n) = left - 1 + x.n := w64 (by omega)
        repeat (first
          | (refine nw_seq (nw_region fun K hK => ?_); simp [s0, s6, hix, hb2, x2, d3, e6]; refine hK _ _ ?_; clear hK K)
          | (refine nw_region fun K hK => ?_; simp [s0, s6, hix, hb2, x2, d3, e6]; refine hK _ _ ?_; clear hK K)
          | refine nw_seq ?_
          | refine nw_block ?_
          | (refine nw_yes ?_ ?_; focus (simp [s0, s6, hix, hb2, x2, d3, e6]; done))
          | (refine nw_no ?_ ?_; focus (simp [s0, s6, hix, hb2, x2, d3, e6]; done))
          | refine nw_skip ?_
          | refine nw_exit ?_
          | refine nw_ret ?_)
        simp [s0, s1, s6, d3]
      ·
        repeat (first
          | (refine nw_seq (nw_region fun K hK => ?_); simp [d3]; refine hK _ _ ?_; clear hK K)
          | (refine nw_region fun K hK => ?_; simp [d3]; refine hK _ _ ?_; clear hK K)
          | refine nw_seq ?_
          | refine nw_block ?_
          | (refine nw_yes ?_ ?_; focus (simp [d3]; done))
          | (refine nw_no ?_ ?_; focus (simp [d3]; done))
          | refine nw_skip ?_
          | refine nw_exit ?_
          | refine nw_ret ?_)
        simp [s0, s1, s6, d3]
    clear s0 s1 s5 s6
    rintro s γ ⟨rfl, s0, s1, s5, s6⟩
    repeat (first
      | (refine nw_seq (nw_region fun K hK => ?_); simp [s0, s6, hix, hb2, x0]; refine hK _ _ ?_; clear hK K)
      | (refine nw_region fun K hK => ?_; simp [s0, s6, hix, hb2, x0]; refine hK _ _ ?_; clear hK K)
      | refine nw_seq ?_
      | refine nw_block ?_
      | (refine nw_yes ?_ ?_; focus (simp [s0, s6, hix, hb2, x0]; done))
      | (refine nw_no ?_ ?_; focus (simp [s0, s6, hix, hb2, x0]; done))
      | refine nw_skip ?_
      | refine nw_exit ?_
      | refine nw_ret ?_)
    refine nw_cut (J := fun s γ' => γ' = γ ∧ s 0 = v ∧ s 1 = .int .i64 at_ ∧ s 5 = .int .i64 (left + (kidsM x - 1)) ∧ s 6 = .int .i64 (i : Int)) ?_ ?_
    · by_cases d4 : x.k = 4
      · have hn := k2 d4
        have d3 : ¬ (x.k = 3) := by omega
        simp only [d3, if_false] at s5
        have e6 : IntKind.i64.wrap (left - 1 + 0 + 1) = left + (kidsM x - 1) := by rw [w64 (by omega)]; omega
        have e7 : IntKind.i64.wrap (left - 1 + 1) = left + (kidsM x - 1) := by rw [w64 (by omega)]; omega
        have e8 : IntKind.i64.wrap left = left + (kidsM x - 1) := by rw [w64 (by omega)]; omega
        repeat (first
          | (refine nw_seq (nw_region fun K hK => ?_); simp [d4, s5, e6, e7, e8]; refine hK _ _ ?_; clear hK K)
          | (refine nw_region fun K hK => ?_; simp [d4, s5, e6, e7, e8]; refine hK _ _ ?_; clear hK K)
          | refine nw_seq ?_
          | refine nw_block ?_
          | (refine nw_yes ?_ ?_; focus (simp [d4, s5, e6, e7, e8]; done))
          | (refine nw_no ?_ ?_; focus (simp [d4, s5, e6, e7, e8]; done))
          | refine nw_skip ?_
          | refine nw_exit ?_
          | refine nw_ret ?_)
        simp [s0, s1, s6]
      ·
        repeat (first
          | (refine nw_seq (nw_region fun K hK => ?_); simp [d4]; refine hK _ _ ?_; clear hK K)
          | (refine nw_region fun K hK => ?_; simp [d4]; refine hK _ _ ?_; clear hK K)
          | refine nw_seq ?_
          | refine nw_block ?_
          | (refine nw_yes ?_ ?_; focus (simp [d4]; done))
          | (refine nw_no ?_ ?_; focus (simp [d4]; done))
          | refine nw_skip ?_
          | refine nw_exit ?_
          | refine nw_ret ?_)
        simp [s0, s1, s6, s5]
        by_cases d3 : x.k = 3
        · rw [if_pos d3, k1 d3]; omega
        · rw [if_neg d3, k3 d3 d4]; omega
    clear s0 s1 s5 s6
    rintro s γ' ⟨rfl, s0, s1, s5, s6⟩
    by_cases c5 : left + (kidsM x - 1) = 0
    ·
      repeat (first
        | (refine nw_seq (nw_region fun K hK => ?_); simp [s5, s1, s6, c5, e4, e5]; refine hK _ _ ?_; clear hK K)
        | (refine nw_region fun K hK => ?_; simp [s5, s1, s6, c5, e4, e5]; refine hK _ _ ?_; clear hK K)
        | refine nw_seq ?_
        | refine nw_block ?_
        | (refine nw_yes ?_ ?_; focus (simp [s5, s1, s6, c5, e4, e5]; done))
        | (refine nw_no ?_ ?_; focus (simp [s5, s1, s6, c5, e4, e5]; done))
        | refine nw_skip ?_
        | refine nw_exit ?_
        | refine nw_ret ?_)
      simp [hfb]
      rw [hm, hgo, if_neg c4, if_pos c5]
    ·
      repeat (first
        | (refine nw_seq (nw_region fun K hK => ?_); simp [s5, s6, c5, e3]; refine hK _ _ ?_; clear hK K)
        | (refine nw_region fun K hK => ?_; simp [s5, s6, c5, e3]; refine hK _ _ ?_; clear hK K)
        | refine nw_seq ?_
        | refine nw_block ?_
        | (refine nw_yes ?_ ?_; focus (simp [s5, s6, c5, e3]; done))
        | (refine nw_no ?_ ?_; focus (simp [s5, s6, c5, e3]; done))
        | refine nw_skip ?_
        | refine nw_exit ?_
        | refine nw_ret ?_)
      refine ⟨xs.length - (i + 1), by omega, i + 1, left + (kidsM x - 1), rfl, by omega, by omega, ?_⟩
      simp [s0, s1, s5, hfb]
      refine ⟨by omega, by omega, ?_⟩
      rw [hm, hgo, if_neg c4, if_neg c5]
      congr 1
      omega
  · have : i = xs.length := by omega
    repeat (first
      | (refine nw_seq (nw_region fun K hK => ?_); simp [s0, s6, hlen, c3]; refine hK _ _ ?_; clear hK K)
      | (refine nw_region fun K hK => ?_; simp [s0, s6, hlen, c3]; refine hK _ _ ?_; clear hK K)
      | refine nw_seq ?_
      | refine nw_block ?_
      | (refine nw_yes ?_ ?_; focus (simp [s0, s6, hlen, c3]; done))
      | (refine nw_no ?_ ?_; focus (simp [s0, s6, hlen, c3]; done))
      | refine nw_skip ?_
      | refine nw_exit ?_
      | refine nw_ret ?_)
    simp [hm, this, sizeGo, hf]
end Go.Proofs.Ytggkeldedennfaa

set_option linter.unusedVariables false
set_option linter.unusedSimpArgs false
namespace Go.Proofs.Ytggkeldedennfaa
open Go Go.RowKit Go.Lay Go.Nod

abbrev Ints (α : AH) (v : Value) (xs : List Int) : Prop := Sl 3 (intK .i64) α v xs
/-- A row of ints, read. -/
theorem ints_rd {α : AH} {v : Value} {xs : List Int} (h : Ints α v xs) : ∃ id off, (alen Try.prog #[28] v = some (.int .i64 (xs.length : Int))) ∧
      (∀ (k : IntKind) (i : Nat), i < xs.length → aindexAddr Try.prog 28 v (.int k (i : Int)) = some (.pointer (some ⟨id, off + i, none⟩))) ∧
      ∀ β, Fr α.n α β → ∀ (i : Nat) (hi : i < xs.length), ∃ b, β.get id = some b ∧ b.cells[off + i]? = some (.int .i64 xs[i]) := by
  obtain ⟨id, off, hlen, hidx, hld⟩ := h.rd (t := 28) Try.underlying28 sz3
  refine ⟨id, off, hlen, fun k i hi => ?_, fun β hf i hi => ?_⟩
  · have := hidx k i hi
    rw [show (intK .i64).sz = 1 from rfl, Nat.mul_one] at this
    exact this
  · obtain ⟨b, h1, _, h3⟩ := hld β hf i hi
    rw [show (intK .i64).sz = 1 from rfl, Nat.mul_one] at h3
    exact ⟨b, h1, take_get h3 (j := 0) (by simp)⟩

set_option maxRecDepth 100000 in
theorem refKidsNo_ok (xs : List Nd) (at_ : Int) (α : AH) (v : Value) (h : Nodes α v xs) (hl : xs.length ≤ 1000000000000) (h0 : sizeM xs at_ = 0) :
    NCalls Try.prog 49 [v, .int .i64 at_] α (fun r α' => Ow α.n 3 (intK .i64) α' r [] ∧ Fr α.n α α') := by
  refine ncalls_of (by kernel_rfl) Try.func49 rfl (by rw [Try.ntmps49]; simp) ?_
  rw [Try.ntmps49, Try.results49]
  repeat (first
    | (refine nw_seq (nw_region fun K hK => ?_); simp []; refine hK _ _ ?_; clear hK K)
    | (refine nw_region fun K hK => ?_; simp []; refine hK _ _ ?_; clear hK K)
    | refine nw_seq ?_
    | refine nw_block ?_
    | (refine nw_yes ?_ ?_; focus (simp []; done))
    | (refine nw_no ?_ ?_; focus (simp []; done))
    | refine nw_skip ?_
    | refine nw_exit ?_
    | refine nw_ret ?_)
  refine nw_region fun K hK => ?_
  simp []
  refine (refSize_ok xs at_ _ v h hl).mono fun r β hr => ?_
  obtain ⟨rfl, hf⟩ := hr
  simp [contK, h0]
  refine hK _ _ ?_
  clear hK K
  repeat (first
    | (refine nw_seq (nw_region fun K hK => ?_); simp []; refine hK _ _ ?_; clear hK K)
    | (refine nw_region fun K hK => ?_; simp []; refine hK _ _ ?_; clear hK K)
    | refine nw_seq ?_
    | refine nw_block ?_
    | (refine nw_yes ?_ ?_; focus (simp []; done))
    | (refine nw_no ?_ ?_; focus (simp []; done))
    | refine nw_skip ?_
    | refine nw_exit ?_
    | refine nw_ret ?_)
  simp [hf]
  exact .nil

set_option maxRecDepth 100000 in
theorem refKidsAt_ok (xs : List Nd) (j : Nat) (x : Nd) (ks : F) (α : AH) (v : Value) (h : Nodes α v xs) (hl : xs.length ≤ 1000000000000) (h0 : At xs j x ks) :
    NCalls Try.prog 49 [v, .int .i64 (j : Int)] α (fun r α' => Ow α.n 3 (intK .i64) α' r ((F.places (j + 1) ks).map Int.ofNat) ∧ Fr α.n α α') := by
  have hlt := h0.lt
  refine ncalls_of (by kernel_rfl) Try.func49 rfl (by rw [Try.ntmps49]; simp) ?_
  rw [Try.ntmps49, Try.results49]
  repeat (first
    | (refine nw_seq (nw_region fun K hK => ?_); simp []; refine hK _ _ ?_; clear hK K)
    | (refine nw_region fun K hK => ?_; simp []; refine hK _ _ ?_; clear hK K)
    | refine nw_seq ?_
    | refine nw_block ?_
    | (refine nw_yes ?_ ?_; focus (simp []; done))
    | (refine nw_no ?_ ?_; focus (simp []; done))
    | refine nw_skip ?_
    | refine nw_exit ?_
    | refine nw_ret ?_)
  refine nw_region fun K hK => ?_
  simp []
  refine (refSize_ok xs j _ v h hl).mono fun r β hr => ?_
  obtain ⟨rfl, hf⟩ := hr
  rw [h0.size]
  simp [contK, ]
  refine hK _ _ ?_
  clear hK K
  have e1 : IntKind.i64.wrap ((j : Int) + 1) = (j : Int) + 1 := w64 (by omega)
  have e2 : IntKind.i64.wrap ((j : Int) + (ks.flat.length + 1)) = (j : Int) + (ks.flat.length + 1) := w64 (by omega)
  have b0 : (((ks.flat.length : Int) + 1) == 0) = false := by simp; omega
  have b0' : ¬ ((ks.flat.length : Int) + 1 = 0) := by omega
  repeat (first
    | (refine nw_seq (nw_region fun K hK => ?_); simp [e1, b0, b0']; refine hK _ _ ?_; clear hK K)
    | (refine nw_region fun K hK => ?_; simp [e1, b0, b0']; refine hK _ _ ?_; clear hK K)
    | refine nw_seq ?_
    | refine nw_block ?_
    | (refine nw_yes ?_ ?_; focus (simp [e1, b0, b0']; done))
    | (refine nw_no ?_ ?_; focus (simp [e1, b0, b0']; done))
    | refine nw_skip ?_
    | refine nw_exit ?_
    | refine nw_ret ?_)
  refine nw_loop (fun n s α' => ∃ (p : Nat) (r : F) (ys : List Int), n = r.cnt ∧ Lies xs p r ∧ p + r.flat.length = j + 1 + ks.flat.length ∧ s 0 = v ∧ s 1 = .int .i64 (j : Int) ∧ s 5 = .int .i64 ((ks.flat.length : Int) + 1) ∧ s 7 = .int .i64 (p : Int) ∧ Fr α.n α α' ∧
      Ow α.n 3 (intK .i64) α' (s 6) ys ∧ ys.length ≤ p ∧ ys ++ (F.places p r).map Int.ofNat = (F.places (j + 1) ks).map Int.ofNat)
    ks.cnt ⟨j + 1, ks, [], rfl, h0.kids, rfl, by simp, by simp, by simp, by simp, hf, by simp; exact .nil, by simp, by simp⟩ ?_
  rintro n s α' ⟨p, r, ys, rfl, hL, hp, s0, s1, s5, s7, hf', ho, hy, hys⟩
  cases r with
  | nil =>
    have c1 : ¬ ((p : Int) < j + (ks.flat.length + 1)) := by simp [F.flat] at hp; omega
    repeat (first
      | (refine nw_seq (nw_region fun K hK => ?_); simp [s0, s1, s5, s7, e2, c1]; refine hK _ _ ?_; clear hK K)
      | (refine nw_region fun K hK => ?_; simp [s0, s1, s5, s7, e2, c1]; refine hK _ _ ?_; clear hK K)
      | refine nw_seq ?_
      | refine nw_block ?_
      | (refine nw_yes ?_ ?_; focus (simp [s0, s1, s5, s7, e2, c1]; done))
      | (refine nw_no ?_ ?_; focus (simp [s0, s1, s5, s7, e2, c1]; done))
      | refine nw_skip ?_
      | refine nw_exit ?_
      | refine nw_ret ?_)
    simp [F.places] at hys
    simp [hf', ← hys]
    exact ho
  | cons z zs r =>
    obtain ⟨hA, hL'⟩ := hL.head
    have c1 : (p : Int) < j + (ks.flat.length + 1) := by simp [F.flat] at hp; omega
    have hAl := hA.lt
    obtain ⟨v', α2, hp1, hp2, hp3, -⟩ := ho.push el28 hf'.n (x := (p : Int)) (c := [.int .i64 (p : Int)]) rfl (intK_apart _ _) (by omega) 0
    have hf2 : Fr α.n α α2 := hf'.trans hp3
    have e3 : IntKind.i64.wrap ((p : Int) + (zs.flat.length + 1)) = (p : Int) + (zs.flat.length + 1) := w64 (by omega)
    repeat (first
      | (refine nw_seq (nw_region fun K hK => ?_); simp [s0, s1, s5, s7, e2, c1, hp1]; refine hK _ _ ?_; clear hK K)
      | (refine nw_region fun K hK => ?_; simp [s0, s1, s5, s7, e2, c1, hp1]; refine hK _ _ ?_; clear hK K)
      | refine nw_seq ?_
      | refine nw_block ?_
      | (refine nw_yes ?_ ?_; focus (simp [s0, s1, s5, s7, e2, c1, hp1]; done))
      | (refine nw_no ?_ ?_; focus (simp [s0, s1, s5, s7, e2, c1, hp1]; done))
      | refine nw_skip ?_
      | refine nw_exit ?_
      | refine nw_ret ?_)
    refine nw_region fun K hK => ?_
    simp [s0, s7]
    refine (refSize_ok xs p _ v (h.fr hf2) hl).mono fun w β2 hw => ?_
    obtain ⟨rfl, hf3⟩ := hw
    rw [hA.size]
    simp [contK, s7, e3]
    refine hK _ _ ?_
    clear hK K
    refine ⟨r.cnt, by simp [F.cnt], p + (zs.flat.length + 1), r, ys ++ [(p : Int)], rfl, hL', by simp [F.flat] at hp; omega, ?_⟩
    simp [s0, s1, s5]
    refine ⟨Fr.up hf2 hf3, hp2.fr hf3, by omega, ?_⟩
    rw [← hys]
    simp [F.places]

theorem drop_head {l : List Int} {i : Nat} {a : Int} {t : List Int} (h : l.drop i = a :: t) : ∃ hi : i < l.length, l[i] = a ∧ l.drop (i + 1) = t := by
  have hi : i < l.length := by
    rcases Nat.lt_or_ge i l.length with h' | h'
    · exact h'
    · rw [List.drop_eq_nil_of_le h'] at h; cases h
  rw [List.drop_eq_getElem_cons hi] at h
  injection h with h1 h2
  exact ⟨hi, h1, h2⟩

theorem places_len : ∀ (f : F) (p : Nat), (F.places p f).length ≤ f.flat.length
  | .nil, p => by simp [F.places, F.flat]
  | .cons x ks r, p => by
    have := places_len r (p + (ks.flat.length + 1))
    simp only [F.places, F.flat, List.length_cons, List.length_append]
    omega

set_option maxRecDepth 100000 in
theorem refDepth_ok : ∀ (n : Nat) (xs : List Nd) (j : Nat) (x : Nd) (ks : F) (α : AH) (v : Value), ks.flat.length = n → Nodes α v xs → xs.length ≤ 1000000000000 → At xs j x ks →
    NCalls Try.prog 62 [v, .int .i64 (j : Int)] α (fun r α' => r = .int .i64 ((ks.dep : Int) + 1) ∧ Fr α.n α α') := by
  intro n
  induction n using Nat.strongRecOn with
  | _ n ih =>
  intro xs j x ks α v hn h hl h0
  have hlt := h0.lt
  have hdl := F.dep_le ks
  refine ncalls_of (by kernel_rfl) Try.func62 rfl (by rw [Try.ntmps62]; simp) ?_
  rw [Try.ntmps62, Try.results62]
  repeat (first
    | (refine nw_seq (nw_region fun K hK => ?_); simp []; refine hK _ _ ?_; clear hK K)
    | (refine nw_region fun K hK => ?_; simp []; refine hK _ _ ?_; clear hK K)
    | refine nw_seq ?_
    | refine nw_block ?_
    | (refine nw_yes ?_ ?_; focus (simp []; done))
    | (refine nw_no ?_ ?_; focus (simp []; done))
    | refine nw_skip ?_
    | refine nw_exit ?_
    | refine nw_ret ?_)
  refine nw_region fun K hK => ?_
  simp []
  refine (refKidsAt_ok xs j x ks _ v h hl h0).mono fun kv β hr => ?_
  obtain ⟨ho, hf⟩ := hr
  obtain ⟨id, off, hlen, hidx, hld⟩ := ints_rd ho.sl
  have hpl := places_len ks (j + 1)
  generalize hkl : (F.places (j + 1) ks).map Int.ofNat = kl at *
  have hkll : kl.length ≤ ks.flat.length := by rw [← hkl, List.length_map]; exact hpl
  simp [contK, hlen]
  refine hK _ _ ?_
  clear hK K
  repeat (first
    | (refine nw_seq (nw_region fun K hK => ?_); simp []; refine hK _ _ ?_; clear hK K)
    | (refine nw_region fun K hK => ?_; simp []; refine hK _ _ ?_; clear hK K)
    | refine nw_seq ?_
    | refine nw_block ?_
    | (refine nw_yes ?_ ?_; focus (simp []; done))
    | (refine nw_no ?_ ?_; focus (simp []; done))
    | refine nw_skip ?_
    | refine nw_exit ?_
    | refine nw_ret ?_)
  refine nw_loop (fun n s α' => ∃ (i p : Nat) (r : F) (m : Int), n = kl.length - i ∧ i ≤ kl.length ∧ Lies xs p r ∧ r.flat.length ≤ ks.flat.length ∧ kl.drop i = (F.places p r).map Int.ofNat ∧ s 0 = v ∧ s 5 = .int .i64 m ∧ s 10 = kv ∧ s 11 = .int .i64 (kl.length : Int) ∧ s 12 = .int .i64 (i : Int) ∧
      Fr β.n β α' ∧ 0 ≤ m ∧ max m r.dep = ks.dep)
    kl.length ⟨0, j + 1, ks, 0, rfl, by omega, h0.kids, Nat.le_refl _, by simp [hkl], by simp, by simp, by simp, by simp, by simp, .refl _ _, by omega, by omega⟩ ?_
  rintro n s α' ⟨i, p, r, m, rfl, hi, hL, hrl, hd, s0, s5, s10, s11, s12, hf', hm0, hm⟩
  cases r with
  | nil =>
    have : i = kl.length := by
      have := congrArg List.length hd
      simp [F.places] at this
      omega
    subst this
    simp only [F.dep] at hm
    have e1 : IntKind.i64.wrap (m + 1) = (ks.dep : Int) + 1 := by rw [w64 (by omega)]; omega
    repeat (first
      | (refine nw_seq (nw_region fun K hK => ?_); simp [s11, s12, s5, e1]; refine hK _ _ ?_; clear hK K)
      | (refine nw_region fun K hK => ?_; simp [s11, s12, s5, e1]; refine hK _ _ ?_; clear hK K)
      | refine nw_seq ?_
      | refine nw_block ?_
      | (refine nw_yes ?_ ?_; focus (simp [s11, s12, s5, e1]; done))
      | (refine nw_no ?_ ?_; focus (simp [s11, s12, s5, e1]; done))
      | refine nw_skip ?_
      | refine nw_exit ?_
      | refine nw_ret ?_)
    simp
    exact Fr.up hf hf'
  | cons z zs r =>
    obtain ⟨hA, hL'⟩ := hL.head
    obtain ⟨hil, hget, hd'⟩ := drop_head (by simpa [F.places] using hd)
    have hil' : (i : Int) < kl.length := by omega
    have hix := hidx .i64 i hil
    obtain ⟨b, hb, hc⟩ := hld _ hf' i hil
    rw [hget] at hc
    have e1 : IntKind.i64.wrap ((i : Int) + 1) = (i : Int) + 1 := w64 (by omega)
    simp only [F.flat, List.length_cons, List.length_append] at hrl
    repeat (first
      | (refine nw_seq (nw_region fun K hK => ?_); simp [s10, s11, s12, hil', hix, hb, hc]; refine hK _ _ ?_; clear hK K)
      | (refine nw_region fun K hK => ?_; simp [s10, s11, s12, hil', hix, hb, hc]; refine hK _ _ ?_; clear hK K)
      | refine nw_seq ?_
      | refine nw_block ?_
      | (refine nw_yes ?_ ?_; focus (simp [s10, s11, s12, hil', hix, hb, hc]; done))
      | (refine nw_no ?_ ?_; focus (simp [s10, s11, s12, hil', hix, hb, hc]; done))
      | refine nw_skip ?_
      | refine nw_exit ?_
      | refine nw_ret ?_)
    refine nw_region fun K hK => ?_
    simp [s0, s5]
    refine (ih zs.flat.length (by omega) xs p z zs _ v rfl (h.fr (Fr.up hf hf')) hl hA).mono fun w γ hw => ?_
    obtain ⟨rfl, hg⟩ := hw
    simp [contK, s0, s5]
    refine hK _ _ ?_
    clear hK K
    repeat (first
      | (refine nw_seq (nw_region fun K hK => ?_); simp [s12, e1]; refine hK _ _ ?_; clear hK K)
      | (refine nw_region fun K hK => ?_; simp [s12, e1]; refine hK _ _ ?_; clear hK K)
      | refine nw_seq ?_
      | refine nw_block ?_
      | (refine nw_yes ?_ ?_; focus (simp [s12, e1]; done))
      | (refine nw_no ?_ ?_; focus (simp [s12, e1]; done))
      | refine nw_skip ?_
      | refine nw_exit ?_
      | refine nw_ret ?_)
    refine ⟨kl.length - (i + 1), by omega, i + 1, p + (zs.flat.length + 1), r, (if m < (zs.dep : Int) + 1 then (zs.dep : Int) + 1 else m), rfl, by omega, hL', by omega, hd', ?_⟩
    simp [s0, s10, s11]
    simp only [F.dep] at hm
    refine ⟨Fr.up hf' hg, by split <;> omega, by split <;> omega⟩

theorem step_len {m a b : Int} (h0 : 0 ≤ m) (ha : 0 ≤ a) (hb : 0 ≤ b) : min 4097 (min (m + min 4097 a) 4097 + b) = min 4097 (m + (a + b)) := by omega

set_option maxRecDepth 100000 in
set_option maxHeartbeats 1000000 in
theorem refLength_ok : ∀ (n : Nat) (xs : List Nd) (j : Nat) (x : Nd) (ks : F) (α : AH) (v : Value), ks.flat.length = n → Nodes α v xs → xs.length ≤ 1000000000000 → At xs j x ks →
    NCalls Try.prog 61 [v, .int .i64 (j : Int)] α (fun r α' => r = .int .i64 (min 4097 (val x ks.len)) ∧ Fr α.n α α') := by
  intro n
  induction n using Nat.strongRecOn with
  | _ n ih =>
  intro xs j x ks α v hn h hl h0
  have hlt := h0.lt
  obtain ⟨hok1, hok2, -⟩ := h0.1
  have hlp := F.len_pos ks hok2
  have hxn := kids_n hok1
  obtain ⟨nid, noff, -, nidx, nld⟩ := h.rd (t := 49) Try.underlying49 sz55
  have hk3 : nodeK.sz = 3 := rfl
  rw [hk3] at nidx nld
  refine ncalls_of (by kernel_rfl) Try.func61 rfl (by rw [Try.ntmps61]; simp) ?_
  rw [Try.ntmps61, Try.results61]
  repeat (first
    | (refine nw_seq (nw_region fun K hK => ?_); simp []; refine hK _ _ ?_; clear hK K)
    | (refine nw_region fun K hK => ?_; simp []; refine hK _ _ ?_; clear hK K)
    | refine nw_seq ?_
    | refine nw_block ?_
    | (refine nw_yes ?_ ?_; focus (simp []; done))
    | (refine nw_no ?_ ?_; focus (simp []; done))
    | refine nw_skip ?_
    | refine nw_exit ?_
    | refine nw_ret ?_)
  refine nw_region fun K hK => ?_
  simp []
  refine (refKidsAt_ok xs j x ks _ v h hl h0).mono fun kv β hr => ?_
  obtain ⟨ho, hf⟩ := hr
  obtain ⟨id, off, hlen, hidx, hld⟩ := ints_rd ho.sl
  have hpl := places_len ks (j + 1)
  generalize hkl : (F.places (j + 1) ks).map Int.ofNat = kl at *
  have hkll : kl.length ≤ ks.flat.length := by rw [← hkl, List.length_map]; exact hpl
  simp [contK, hlen]
  refine hK _ _ ?_
  clear hK K
  repeat (first
    | (refine nw_seq (nw_region fun K hK => ?_); simp []; refine hK _ _ ?_; clear hK K)
    | (refine nw_region fun K hK => ?_; simp []; refine hK _ _ ?_; clear hK K)
    | refine nw_seq ?_
    | refine nw_block ?_
    | (refine nw_yes ?_ ?_; focus (simp []; done))
    | (refine nw_no ?_ ?_; focus (simp []; done))
    | refine nw_skip ?_
    | refine nw_exit ?_
    | refine nw_ret ?_)
  refine nw_loop (fun n s α' => ∃ (i p : Nat) (r : F) (m : Int), n = kl.length - i ∧ i ≤ kl.length ∧ Lies xs p r ∧ r.flat.length ≤ ks.flat.length ∧ kl.drop i = (F.places p r).map Int.ofNat ∧ s 0 = v ∧ s 1 = .int .i64 (j : Int) ∧ s 5 = .int .i64 m ∧ s 10 = kv ∧ s 11 = .int .i64 (kl.length : Int) ∧ s 12 = .int .i64 (i : Int) ∧
      Fr β.n β α' ∧ 0 ≤ m ∧ m ≤ 4097 ∧ min 4097 (m + r.len) = min 4097 ks.len)
    kl.length ⟨0, j + 1, ks, 0, rfl, by omega, h0.kids, Nat.le_refl _, by simp [hkl], by simp, by simp, by simp, by simp, by simp, by simp, .refl _ _, by omega, by omega, by omega⟩ ?_
  rintro n s α' ⟨i, p, r, m, rfl, hi, hL, hrl, hd, s0, s1, s5, s10, s11, s12, hf', hm0, hm1, hm⟩
  cases r with
  | nil =>
    have : i = kl.length := by
      have := congrArg List.length hd
      simp [F.places] at this
      omega
    subst this
    simp only [F.len] at hm
    have hjl : j < xs.length := by omega
    obtain ⟨b, hb, _, hR⟩ := nld _ (Fr.up hf hf') j hjl
    rw [h0.get hjl] at hR
    have x0 : b.cells[noff + j * 3]? = some (.int .i64 x.k) := take_get hR (j := 0) (show 0 < 3 by decide)
    have x2 : b.cells[noff + j * 3 + 2]? = some (.int .i64 x.n) := take_get hR (j := 2) (show 2 < 3 by decide)
    have nix := nidx .i64 j hjl
    by_cases d3 : x.k = 3
    ·
      repeat (first
        | (refine nw_seq (nw_region fun K hK => ?_); simp [s0, s1, s5, s11, s12, nix, hb, x0, d3]; refine hK _ _ ?_; clear hK K)
        | (refine nw_region fun K hK => ?_; simp [s0, s1, s5, s11, s12, nix, hb, x0, d3]; refine hK _ _ ?_; clear hK K)
        | refine nw_seq ?_
        | refine nw_block ?_
        | (refine nw_yes ?_ ?_; focus (simp [s0, s1, s5, s11, s12, nix, hb, x0, d3]; done))
        | (refine nw_no ?_ ?_; focus (simp [s0, s1, s5, s11, s12, nix, hb, x0, d3]; done))
        | refine nw_skip ?_
        | refine nw_exit ?_
        | refine nw_ret ?_)
      simp [val, d3]
      exact ⟨by omega, Fr.up hf hf'⟩
    by_cases d4 : x.k = 4
    · have hmm := min_mul x.n ks.len hxn (by omega)
      have e0 : (if 4097 < x.n then 4097 else x.n) = min 4097 x.n := by split <;> omega
      have hm' : m = min 4097 ks.len := by omega
      have q1 : m * min 4097 x.n ≤ 4097 * 4097 := Int.mul_le_mul hm1 (by omega) (by omega) (by omega)
      have q0 : 0 ≤ m * min 4097 x.n := Int.mul_nonneg hm0 (by omega)
      have e1 : IntKind.i64.wrap (m * min 4097 x.n) = m * min 4097 x.n := w64 (by omega)
      repeat (first
        | (refine nw_seq (nw_region fun K hK => ?_); simp [s0, s1, s5, s11, s12, nix, hb, x0, x2, d3, d4, e0, e1]; refine hK _ _ ?_; clear hK K)
        | (refine nw_region fun K hK => ?_; simp [s0, s1, s5, s11, s12, nix, hb, x0, x2, d3, d4, e0, e1]; refine hK _ _ ?_; clear hK K)
        | refine nw_seq ?_
        | refine nw_block ?_
        | (refine nw_yes ?_ ?_; focus (simp [s0, s1, s5, s11, s12, nix, hb, x0, x2, d3, d4, e0, e1]; done))
        | (refine nw_no ?_ ?_; focus (simp [s0, s1, s5, s11, s12, nix, hb, x0, x2, d3, d4, e0, e1]; done))
        | refine nw_skip ?_
        | refine nw_exit ?_
        | refine nw_ret ?_)
      simp [val, d3, d4]
      refine ⟨?_, Fr.up hf hf'⟩
      rw [← hmm, ← hm', Int.mul_comm m]
      split <;> omega
    · have e0 : (if 4097 < x.n then 4097 else x.n) = min 4097 x.n := by split <;> omega
      repeat (first
        | (refine nw_seq (nw_region fun K hK => ?_); simp [s0, s1, s5, s11, s12, nix, hb, x0, x2, d3, d4, e0]; refine hK _ _ ?_; clear hK K)
        | (refine nw_region fun K hK => ?_; simp [s0, s1, s5, s11, s12, nix, hb, x0, x2, d3, d4, e0]; refine hK _ _ ?_; clear hK K)
        | refine nw_seq ?_
        | refine nw_block ?_
        | (refine nw_yes ?_ ?_; focus (simp [s0, s1, s5, s11, s12, nix, hb, x0, x2, d3, d4, e0]; done))
        | (refine nw_no ?_ ?_; focus (simp [s0, s1, s5, s11, s12, nix, hb, x0, x2, d3, d4, e0]; done))
        | refine nw_skip ?_
        | refine nw_exit ?_
        | refine nw_ret ?_)
      simp [val, d3, d4]
      exact Fr.up hf hf'
  | cons z zs r =>
    obtain ⟨hA, hL'⟩ := hL.head
    obtain ⟨hil, hget, hd'⟩ := drop_head (by simpa [F.places] using hd)
    have hil' : (i : Int) < kl.length := by omega
    have hix := hidx .i64 i hil
    obtain ⟨b, hb, hc⟩ := hld _ hf' i hil
    rw [hget] at hc
    obtain ⟨hz1, hz2, hz3⟩ := hL.1
    have hv0 : 1 ≤ val z zs.len := by have := F.len_pos (F.cons z zs .nil) ⟨hz1, hz2, trivial⟩; simp [F.cnt, F.len] at this; omega
    have hr0 := F.len_pos r hz3
    have e1 : IntKind.i64.wrap ((i : Int) + 1) = (i : Int) + 1 := w64 (by omega)
    have e2 : IntKind.i64.wrap (m + min 4097 (val z zs.len)) = m + min 4097 (val z zs.len) := w64 (by omega)
    simp only [F.flat, List.length_cons, List.length_append] at hrl
    repeat (first
      | (refine nw_seq (nw_region fun K hK => ?_); simp [s10, s11, s12, hil', hix, hb, hc]; refine hK _ _ ?_; clear hK K)
      | (refine nw_region fun K hK => ?_; simp [s10, s11, s12, hil', hix, hb, hc]; refine hK _ _ ?_; clear hK K)
      | refine nw_seq ?_
      | refine nw_block ?_
      | (refine nw_yes ?_ ?_; focus (simp [s10, s11, s12, hil', hix, hb, hc]; done))
      | (refine nw_no ?_ ?_; focus (simp [s10, s11, s12, hil', hix, hb, hc]; done))
      | refine nw_skip ?_
      | refine nw_exit ?_
      | refine nw_ret ?_)
    refine nw_region fun K hK => ?_
    simp [s0, s5]
    refine (ih zs.flat.length (by omega) xs p z zs _ v rfl (h.fr (Fr.up hf hf')) hl hA).mono fun w γ hw => ?_
    obtain ⟨rfl, hg⟩ := hw
    simp [contK, s0, s5, e2]
    refine hK _ _ ?_
    clear hK K
    repeat (first
      | (refine nw_seq (nw_region fun K hK => ?_); simp [s12, e1]; refine hK _ _ ?_; clear hK K)
      | (refine nw_region fun K hK => ?_; simp [s12, e1]; refine hK _ _ ?_; clear hK K)
      | refine nw_seq ?_
      | refine nw_block ?_
      | (refine nw_yes ?_ ?_; focus (simp [s12, e1]; done))
      | (refine nw_no ?_ ?_; focus (simp [s12, e1]; done))
      | refine nw_skip ?_
      | refine nw_exit ?_
      | refine nw_ret ?_)
    refine ⟨kl.length - (i + 1), by omega, i + 1, p + (zs.flat.length + 1), r, (if 4097 < m + min 4097 (val z zs.len) then 4097 else m + min 4097 (val z zs.len)), rfl, by omega, hL', by omega, hd', ?_⟩
    simp [s0, s1, s10, s11]
    simp only [F.len] at hm
    refine ⟨Fr.up hf' hg, by split <;> omega, by split <;> omega, ?_⟩
    rw [← hm, ← step_len hm0 (by omega : 0 ≤ val z zs.len) (by omega : 0 ≤ r.len)]
    congr 2
    split <;> omega
end Go.Proofs.Ytggkeldedennfaa

set_option linter.unusedVariables false
set_option linter.unusedSimpArgs false
namespace Go.Proofs.Ytggkeldedennfaa
open Go Go.RowKit Go.Lay Go.Nod

theorem judged_at0 {xs : List Nd} {d len : Int} (h : Judged xs true d len) : ∃ x ks, At xs 0 x ks ∧ d = ks.dep + 1 ∧ len = min 4097 (val x ks.len) := by
  rcases h with ⟨h0, _⟩ | ⟨_, _, _, x, ks, h1, rfl, rfl, rfl⟩
  · cases h0
  · exact ⟨x, ks, ⟨h1, [], by simp⟩, rfl, rfl⟩

set_option maxRecDepth 100000 in
theorem refDepth0_ok (xs : List Nd) {w : Bool} {d len : Int} (hj : Judged xs w d len) (α : AH) (v : Value) (h : Nodes α v xs) (hl : xs.length ≤ 1000000000) :
    NCalls Try.prog 47 [v] α (fun r α' => r = .int .i64 d ∧ Fr α.n α α') := by
  obtain ⟨id, off, hlen, hidx, hld⟩ := h.rd (t := 49) Try.underlying49 sz55
  refine ncalls_of (by kernel_rfl) Try.func47 rfl (by rw [Try.ntmps47]; simp) ?_
  rw [Try.ntmps47, Try.results47]
  by_cases c1 : xs.length = 0
  · have c1' : ((xs.length : Int) == 0) = true := by simp; exact List.length_eq_zero_iff.1 c1
    have c1'' : (xs.length : Int) = 0 := by omega
    have hd : d = 0 := by
      rcases hj with ⟨_, _, h0, _⟩ | ⟨_, _, h0, _⟩
      · exact h0
      · omega
    have hnil : xs = [] := List.length_eq_zero_iff.1 c1
    subst hnil
    repeat (first
      | (refine nw_seq (nw_region fun K hK => ?_); simp [hlen]; refine hK _ _ ?_; clear hK K)
      | (refine nw_region fun K hK => ?_; simp [hlen]; refine hK _ _ ?_; clear hK K)
      | refine nw_seq ?_
      | refine nw_block ?_
      | (refine nw_yes ?_ ?_; focus (simp [hlen]; done))
      | (refine nw_no ?_ ?_; focus (simp [hlen]; done))
      | refine nw_skip ?_
      | refine nw_exit ?_
      | refine nw_ret ?_)
    simp [hd, Fr.refl]
  · have c1' : ((xs.length : Int) == 0) = false := by simp; intro hh; subst hh; simp at c1
    have c1'' : ¬ ((xs.length : Int) = 0) := by omega
    have hnil : xs ≠ [] := fun hh => c1 (by rw [hh]; rfl)
    repeat (first
      | (refine nw_seq (nw_region fun K hK => ?_); simp []; refine hK _ _ ?_; clear hK K)
      | (refine nw_region fun K hK => ?_; simp []; refine hK _ _ ?_; clear hK K)
      | refine nw_seq ?_
      | refine nw_block ?_
      | (refine nw_yes ?_ ?_; focus (simp []; done))
      | (refine nw_no ?_ ?_; focus (simp []; done))
      | refine nw_skip ?_
      | refine nw_exit ?_
      | refine nw_ret ?_)
    refine nw_region fun K hK => ?_
    simp [hlen, c1', c1'', hnil]
    refine (refSize_ok xs 0 _ v h (by omega)).mono fun r β hr => ?_
    obtain ⟨rfl, hf⟩ := hr
    cases w with
    | false =>
      have hs : ¬ (sizeM xs 0 = xs.length) := by
        rcases hj with ⟨_, h0, _⟩ | ⟨h0, _⟩
        · exact fun hh => h0 ⟨hh, by omega⟩
        · cases h0
      have hs1 : (sizeM xs 0 == (xs.length : Int)) = false := by simpa using hs
      have hs2 : (sizeM xs 0 != (xs.length : Int)) = true := by simpa using hs
      have hd : d = 0 := by
        rcases hj with ⟨_, _, h0, _⟩ | ⟨h0, _⟩
        · exact h0
        · cases h0
      simp [contK, hlen, c1', c1'', hnil, hs1, hs2]
      refine hK _ _ ?_
      clear hK K
      repeat (first
        | (refine nw_seq (nw_region fun K hK => ?_); simp [hs1, hs2]; refine hK _ _ ?_; clear hK K)
        | (refine nw_region fun K hK => ?_; simp [hs1, hs2]; refine hK _ _ ?_; clear hK K)
        | refine nw_seq ?_
        | refine nw_block ?_
        | (refine nw_yes ?_ ?_; focus (simp [hs1, hs2]; done))
        | (refine nw_no ?_ ?_; focus (simp [hs1, hs2]; done))
        | refine nw_skip ?_
        | refine nw_exit ?_
        | refine nw_ret ?_)
      simp [hd, hf]
    | true =>
      have hs : sizeM xs 0 = xs.length := by
        rcases hj with ⟨h0, _⟩ | ⟨_, h0, _⟩
        · cases h0
        · exact h0
      obtain ⟨x, ks, hA, rfl, rfl⟩ := judged_at0 hj
      simp [contK, hlen, c1', c1'', hnil, hs]
      refine hK _ _ ?_
      clear hK K
      repeat (first
        | (refine nw_seq (nw_region fun K hK => ?_); simp []; refine hK _ _ ?_; clear hK K)
        | (refine nw_region fun K hK => ?_; simp []; refine hK _ _ ?_; clear hK K)
        | refine nw_seq ?_
        | refine nw_block ?_
        | (refine nw_yes ?_ ?_; focus (simp []; done))
        | (refine nw_no ?_ ?_; focus (simp []; done))
        | refine nw_skip ?_
        | refine nw_exit ?_
        | refine nw_ret ?_)
      refine nw_region fun K hK => ?_
      simp []
      refine (refDepth_ok _ xs 0 x ks _ v rfl (h.fr hf) (by omega) hA).mono fun r γ hr => ?_
      obtain ⟨rfl, hg⟩ := hr
      simp [contK, ]
      refine hK _ _ ?_
      clear hK K
      repeat (first
        | (refine nw_seq (nw_region fun K hK => ?_); simp []; refine hK _ _ ?_; clear hK K)
        | (refine nw_region fun K hK => ?_; simp []; refine hK _ _ ?_; clear hK K)
        | refine nw_seq ?_
        | refine nw_block ?_
        | (refine nw_yes ?_ ?_; focus (simp []; done))
        | (refine nw_no ?_ ?_; focus (simp []; done))
        | refine nw_skip ?_
        | refine nw_exit ?_
        | refine nw_ret ?_)
      simp
      exact Fr.up hf hg

set_option maxRecDepth 100000 in
theorem refLength0_ok (xs : List Nd) {w : Bool} {d len : Int} (hj : Judged xs w d len) (α : AH) (v : Value) (h : Nodes α v xs) (hl : xs.length ≤ 1000000000) :
    NCalls Try.prog 46 [v] α (fun r α' => r = .tuple #[.int .i64 (if len ≤ 4096 then len else 0), .bool (w && decide (len ≤ 4096))] ∧ Fr α.n α α') := by
  refine ncalls_of (by kernel_rfl) Try.func46 rfl (by rw [Try.ntmps46]; simp) ?_
  rw [Try.ntmps46, Try.results46]
  repeat (first
    | (refine nw_seq (nw_region fun K hK => ?_); simp []; refine hK _ _ ?_; clear hK K)
    | (refine nw_region fun K hK => ?_; simp []; refine hK _ _ ?_; clear hK K)
    | refine nw_seq ?_
    | refine nw_block ?_
    | (refine nw_yes ?_ ?_; focus (simp []; done))
    | (refine nw_no ?_ ?_; focus (simp []; done))
    | refine nw_skip ?_
    | refine nw_exit ?_
    | refine nw_ret ?_)
  refine nw_region fun K hK => ?_
  simp []
  refine (refDepth0_ok xs hj _ v h hl).mono fun r β hr => ?_
  obtain ⟨rfl, hf⟩ := hr
  cases w with
  | false =>
    have hd : d = 0 ∧ len = 0 := by
      rcases hj with ⟨_, _, h0, h1⟩ | ⟨h0, _⟩
      · exact ⟨h0, h1⟩
      · cases h0
    obtain ⟨rfl, rfl⟩ := hd
    simp [contK, ]
    refine hK _ _ ?_
    clear hK K
    repeat (first
      | (refine nw_seq (nw_region fun K hK => ?_); simp []; refine hK _ _ ?_; clear hK K)
      | (refine nw_region fun K hK => ?_; simp []; refine hK _ _ ?_; clear hK K)
      | refine nw_seq ?_
      | refine nw_block ?_
      | (refine nw_yes ?_ ?_; focus (simp []; done))
      | (refine nw_no ?_ ?_; focus (simp []; done))
      | refine nw_skip ?_
      | refine nw_exit ?_
      | refine nw_ret ?_)
    simp [hf]
  | true =>
    obtain ⟨x, ks, hA, rfl, rfl⟩ := judged_at0 hj
    have z1 : (((ks.dep : Int) + 1) == 0) = false := by simp; omega
    have z2 : ¬ ((ks.dep : Int) + 1 = 0) := by omega
    simp [contK, z1, z2]
    refine hK _ _ ?_
    clear hK K
    repeat (first
      | (refine nw_seq (nw_region fun K hK => ?_); simp []; refine hK _ _ ?_; clear hK K)
      | (refine nw_region fun K hK => ?_; simp []; refine hK _ _ ?_; clear hK K)
      | refine nw_seq ?_
      | refine nw_block ?_
      | (refine nw_yes ?_ ?_; focus (simp []; done))
      | (refine nw_no ?_ ?_; focus (simp []; done))
      | refine nw_skip ?_
      | refine nw_exit ?_
      | refine nw_ret ?_)
    refine nw_region fun K hK => ?_
    simp []
    refine (refLength_ok _ xs 0 x ks _ v rfl (h.fr hf) (by omega) hA).mono fun r γ hr => ?_
    obtain ⟨rfl, hg⟩ := hr
    simp [contK, ]
    refine hK _ _ ?_
    clear hK K
    generalize min 4097 (val x ks.len) = len at *
    by_cases c : len ≤ 4096
    · have c' : ¬ (4096 < len) := by omega
      repeat (first
        | (refine nw_seq (nw_region fun K hK => ?_); simp [c']; refine hK _ _ ?_; clear hK K)
        | (refine nw_region fun K hK => ?_; simp [c']; refine hK _ _ ?_; clear hK K)
        | refine nw_seq ?_
        | refine nw_block ?_
        | (refine nw_yes ?_ ?_; focus (simp [c']; done))
        | (refine nw_no ?_ ?_; focus (simp [c']; done))
        | refine nw_skip ?_
        | refine nw_exit ?_
        | refine nw_ret ?_)
      simp [c]
      exact Fr.up hf hg
    · have c' : 4096 < len := by omega
      repeat (first
        | (refine nw_seq (nw_region fun K hK => ?_); simp [c']; refine hK _ _ ?_; clear hK K)
        | (refine nw_region fun K hK => ?_; simp [c']; refine hK _ _ ?_; clear hK K)
        | refine nw_seq ?_
        | refine nw_block ?_
        | (refine nw_yes ?_ ?_; focus (simp [c']; done))
        | (refine nw_no ?_ ?_; focus (simp [c']; done))
        | refine nw_skip ?_
        | refine nw_exit ?_
        | refine nw_ret ?_)
      simp [c]
      exact Fr.up hf hg

set_option maxRecDepth 100000 in
theorem refRight0_ok (xs : List Nd) {w : Bool} {d len : Int} (hj : Judged xs w d len) (α : AH) (v : Value) (h : Nodes α v xs) (hl : xs.length ≤ 1000000000) :
    NCalls Try.prog 28 [v] α (fun r α' => r = .int .i64 (rightM xs.length w d len) ∧ Fr α.n α α') := by
  obtain ⟨id, off, hlen, hidx, hld⟩ := h.rd (t := 49) Try.underlying49 sz55
  refine ncalls_of (by kernel_rfl) Try.func28 rfl (by rw [Try.ntmps28]; simp) ?_
  rw [Try.ntmps28, Try.results28]
  by_cases c1 : 128 < (xs.length : Int)
  ·
    repeat (first
      | (refine nw_seq (nw_region fun K hK => ?_); simp [hlen, c1]; refine hK _ _ ?_; clear hK K)
      | (refine nw_region fun K hK => ?_; simp [hlen, c1]; refine hK _ _ ?_; clear hK K)
      | refine nw_seq ?_
      | refine nw_block ?_
      | (refine nw_yes ?_ ?_; focus (simp [hlen, c1]; done))
      | (refine nw_no ?_ ?_; focus (simp [hlen, c1]; done))
      | refine nw_skip ?_
      | refine nw_exit ?_
      | refine nw_ret ?_)
    simp [rightM, c1, Fr.refl]
  ·
    repeat (first
      | (refine nw_seq (nw_region fun K hK => ?_); simp [hlen, c1]; refine hK _ _ ?_; clear hK K)
      | (refine nw_region fun K hK => ?_; simp [hlen, c1]; refine hK _ _ ?_; clear hK K)
      | refine nw_seq ?_
      | refine nw_block ?_
      | (refine nw_yes ?_ ?_; focus (simp [hlen, c1]; done))
      | (refine nw_no ?_ ?_; focus (simp [hlen, c1]; done))
      | refine nw_skip ?_
      | refine nw_exit ?_
      | refine nw_ret ?_)
    refine nw_region fun K hK => ?_
    simp []
    refine (refDepth0_ok xs hj _ v h hl).mono fun r β hr => ?_
    obtain ⟨rfl, hf⟩ := hr
    cases w with
    | false =>
      have hd : d = 0 := by
        rcases hj with ⟨_, _, h0, h1⟩ | ⟨h0, _⟩
        · exact h0
        · cases h0
      subst hd
      simp [contK, ]
      refine hK _ _ ?_
      clear hK K
      repeat (first
        | (refine nw_seq (nw_region fun K hK => ?_); simp []; refine hK _ _ ?_; clear hK K)
        | (refine nw_region fun K hK => ?_; simp []; refine hK _ _ ?_; clear hK K)
        | refine nw_seq ?_
        | refine nw_block ?_
        | (refine nw_yes ?_ ?_; focus (simp []; done))
        | (refine nw_no ?_ ?_; focus (simp []; done))
        | refine nw_skip ?_
        | refine nw_exit ?_
        | refine nw_ret ?_)
      simp [rightM, c1, hf]
    | true =>
      obtain ⟨x, ks, hA, hd, hlen'⟩ := judged_at0 hj
      have z1 : (d == 0) = false := by simp; omega
      have z2 : ¬ (d = 0) := by omega
      simp [contK, z1, z2]
      refine hK _ _ ?_
      clear hK K
      repeat (first
        | (refine nw_seq (nw_region fun K hK => ?_); simp [z1, z2]; refine hK _ _ ?_; clear hK K)
        | (refine nw_region fun K hK => ?_; simp [z1, z2]; refine hK _ _ ?_; clear hK K)
        | refine nw_seq ?_
        | refine nw_block ?_
        | (refine nw_yes ?_ ?_; focus (simp [z1, z2]; done))
        | (refine nw_no ?_ ?_; focus (simp [z1, z2]; done))
        | refine nw_skip ?_
        | refine nw_exit ?_
        | refine nw_ret ?_)
      refine nw_region fun K hK => ?_
      simp []
      refine (refDepth0_ok xs hj _ v (h.fr hf) hl).mono fun r γ hr => ?_
      obtain ⟨rfl, hg⟩ := hr
      have hf := Fr.up hf hg
      simp [contK, ]
      refine hK _ _ ?_
      clear hK K
      by_cases c2 : 16 < d
      ·
        repeat (first
          | (refine nw_seq (nw_region fun K hK => ?_); simp [c2]; refine hK _ _ ?_; clear hK K)
          | (refine nw_region fun K hK => ?_; simp [c2]; refine hK _ _ ?_; clear hK K)
          | refine nw_seq ?_
          | refine nw_block ?_
          | (refine nw_yes ?_ ?_; focus (simp [c2]; done))
          | (refine nw_no ?_ ?_; focus (simp [c2]; done))
          | refine nw_skip ?_
          | refine nw_exit ?_
          | refine nw_ret ?_)
        simp [rightM, c1, c2, hf]
      ·
        repeat (first
          | (refine nw_seq (nw_region fun K hK => ?_); simp [c2]; refine hK _ _ ?_; clear hK K)
          | (refine nw_region fun K hK => ?_; simp [c2]; refine hK _ _ ?_; clear hK K)
          | refine nw_seq ?_
          | refine nw_block ?_
          | (refine nw_yes ?_ ?_; focus (simp [c2]; done))
          | (refine nw_no ?_ ?_; focus (simp [c2]; done))
          | refine nw_skip ?_
          | refine nw_exit ?_
          | refine nw_ret ?_)
        refine nw_region fun K hK => ?_
        simp []
        refine (refLength0_ok xs hj _ v (h.fr hf) hl).mono fun r γ hr => ?_
        obtain ⟨rfl, hg⟩ := hr
        have hf := Fr.up hf hg
        simp [contK, ]
        refine hK _ _ ?_
        clear hK K
        by_cases c3 : len ≤ 4096
        · have c3' : ¬ (4096 < len) := by omega
          repeat (first
            | (refine nw_seq (nw_region fun K hK => ?_); simp [c2, c3]; refine hK _ _ ?_; clear hK K)
            | (refine nw_region fun K hK => ?_; simp [c2, c3]; refine hK _ _ ?_; clear hK K)
            | refine nw_seq ?_
            | refine nw_block ?_
            | (refine nw_yes ?_ ?_; focus (simp [c2, c3]; done))
            | (refine nw_no ?_ ?_; focus (simp [c2, c3]; done))
            | refine nw_skip ?_
            | refine nw_exit ?_
            | refine nw_ret ?_)
          simp [rightM, c1, c2, c3', hf]
        · have c3' : 4096 < len := by omega
          repeat (first
            | (refine nw_seq (nw_region fun K hK => ?_); simp [c2, c3]; refine hK _ _ ?_; clear hK K)
            | (refine nw_region fun K hK => ?_; simp [c2, c3]; refine hK _ _ ?_; clear hK K)
            | refine nw_seq ?_
            | refine nw_block ?_
            | (refine nw_yes ?_ ?_; focus (simp [c2, c3]; done))
            | (refine nw_no ?_ ?_; focus (simp [c2, c3]; done))
            | refine nw_skip ?_
            | refine nw_exit ?_
            | refine nw_ret ?_)
          simp [rightM, c1, c2, c3', hf]
end Go.Proofs.Ytggkeldedennfaa

set_option linter.unusedVariables false
set_option linter.unusedSimpArgs false
namespace Go.Proofs.Ytggkeldedennfaa
open Go Go.RowKit Go.Lay Go.Nod

/-- Kids of both, at any place: the same list. -/
def KidsAre (xs : List Nd) (at_ : Int) (l : List Int) : Prop := (sizeM xs at_ = 0 ∧ l = []) ∨ ∃ (j : Nat) (x : Nd) (ks : F), at_ = j ∧ At xs j x ks ∧ l = (F.places (j + 1) ks).map Int.ofNat
theorem kidsAre (xs : List Nd) (at_ : Int) : ∃ l, KidsAre xs at_ l := by
  by_cases h : sizeM xs at_ = 0
  · exact ⟨[], .inl ⟨h, rfl⟩⟩
  · obtain ⟨j, x, ks, h1, h2⟩ := size_at h
    exact ⟨_, .inr ⟨j, x, ks, h1, h2, rfl⟩⟩
theorem KidsAre.len {xs : List Nd} {at_ : Int} {l : List Int} (h : KidsAre xs at_ l) : l.length ≤ xs.length := by
  rcases h with ⟨_, rfl⟩ | ⟨j, x, ks, _, h2, rfl⟩
  · simp
  · have := places_len ks (j + 1); have := h2.lt; simp; omega
theorem kids_any (xs : List Nd) (at_ : Int) (l : List Int) (hk : KidsAre xs at_ l) (α : AH) (v : Value) (h : Nodes α v xs) (hl : xs.length ≤ 1000000000000) :
    NCalls Try.prog 29 [v, .int .i64 at_] α (fun r α' => Ow α.n 3 (intK .i64) α' r l ∧ Fr α.n α α') := by
  rcases hk with ⟨h0, rfl⟩ | ⟨j, x, ks, rfl, h2, rfl⟩
  · exact kidsNo_ok xs at_ α v h hl h0
  · exact kidsAt_ok xs j x ks α v h hl h2
theorem refKids_any (xs : List Nd) (at_ : Int) (l : List Int) (hk : KidsAre xs at_ l) (α : AH) (v : Value) (h : Nodes α v xs) (hl : xs.length ≤ 1000000000000) :
    NCalls Try.prog 49 [v, .int .i64 at_] α (fun r α' => Ow α.n 3 (intK .i64) α' r l ∧ Fr α.n α α') := by
  rcases hk with ⟨h0, rfl⟩ | ⟨j, x, ks, rfl, h2, rfl⟩
  · exact refKidsNo_ok xs at_ α v h hl h0
  · exact refKidsAt_ok xs j x ks α v h hl h2

set_option maxRecDepth 100000 in
set_option maxHeartbeats 2000000 in
theorem lawSame_ok (xs : List Nd) (at_ : Int) (α : AH) (v : Value) (h : Nodes α v xs) (hl : xs.length ≤ 1000000000) :
    NCalls Try.prog 24 [v, .int .i64 at_] α (fun r α' => r = .bool true ∧ Fr α.n α α') := by
  obtain ⟨w, d, len, hj⟩ := judged xs
  obtain ⟨id, off, hlen, hidx, hld⟩ := h.rd (t := 49) Try.underlying49 sz55
  refine ncalls_of (by kernel_rfl) Try.func24 rfl (by rw [Try.ntmps24]; simp) ?_
  rw [Try.ntmps24, Try.results24]
  have hf : Fr α.n α α := .refl _ _
  repeat (first
    | (refine nw_seq (nw_region fun K hK => ?_); simp []; refine hK _ _ ?_; clear hK K)
    | (refine nw_region fun K hK => ?_; simp []; refine hK _ _ ?_; clear hK K)
    | refine nw_seq ?_
    | refine nw_block ?_
    | (refine nw_yes ?_ ?_; focus (simp []; done))
    | (refine nw_no ?_ ?_; focus (simp []; done))
    | refine nw_skip ?_
    | refine nw_exit ?_
    | refine nw_ret ?_)
  refine nw_region fun K hK => ?_
  simp []
  refine (length_ok xs hj _ v (h.fr hf) hl).mono fun r γ hr => ?_
  obtain ⟨rfl, hg⟩ := hr
  replace hf := Fr.up hf hg
  have hg0 := hg
  clear hg
  simp [contK, ]
  refine hK _ _ ?_
  clear hK K
  repeat (first
    | (refine nw_seq (nw_region fun K hK => ?_); simp []; refine hK _ _ ?_; clear hK K)
    | (refine nw_region fun K hK => ?_; simp []; refine hK _ _ ?_; clear hK K)
    | refine nw_seq ?_
    | refine nw_block ?_
    | (refine nw_yes ?_ ?_; focus (simp []; done))
    | (refine nw_no ?_ ?_; focus (simp []; done))
    | refine nw_skip ?_
    | refine nw_exit ?_
    | refine nw_ret ?_)
  refine nw_region fun K hK => ?_
  simp []
  refine (refLength0_ok xs hj _ v (h.fr hf) hl).mono fun r γ hr => ?_
  obtain ⟨rfl, hg⟩ := hr
  replace hf := Fr.up hf hg
  have hg0 := hg
  clear hg
  simp [contK, ]
  refine hK _ _ ?_
  clear hK K
  repeat (first
    | (refine nw_seq (nw_region fun K hK => ?_); simp []; refine hK _ _ ?_; clear hK K)
    | (refine nw_region fun K hK => ?_; simp []; refine hK _ _ ?_; clear hK K)
    | refine nw_seq ?_
    | refine nw_block ?_
    | (refine nw_yes ?_ ?_; focus (simp []; done))
    | (refine nw_no ?_ ?_; focus (simp []; done))
    | refine nw_skip ?_
    | refine nw_exit ?_
    | refine nw_ret ?_)
  refine nw_region fun K hK => ?_
  simp []
  refine (right_ok xs hj _ v (h.fr hf) hl).mono fun r γ hr => ?_
  obtain ⟨rfl, hg⟩ := hr
  replace hf := Fr.up hf hg
  have hg0 := hg
  clear hg
  simp [contK, ]
  refine (refRight0_ok xs hj _ v (h.fr hf) hl).mono fun r γ hr => ?_
  obtain ⟨rfl, hg⟩ := hr
  replace hf := Fr.up hf hg
  have hg0 := hg
  clear hg
  simp [contK, ]
  refine (depth_ok xs hj _ v (h.fr hf) hl).mono fun r γ hr => ?_
  obtain ⟨rfl, hg⟩ := hr
  replace hf := Fr.up hf hg
  have hg0 := hg
  clear hg
  simp [contK, ]
  refine (refDepth0_ok xs hj _ v (h.fr hf) hl).mono fun r γ hr => ?_
  obtain ⟨rfl, hg⟩ := hr
  replace hf := Fr.up hf hg
  have hg0 := hg
  clear hg
  simp [contK, ]
  refine hK _ _ ?_
  clear hK K
  have e1 : IntKind.i64.wrap ((xs.length : Int) - 1) = (xs.length : Int) - 1 := w64 (by omega)
  rename AH => γ
  have hL : Ints (γ.alloc ⟨[.int .i64 0, .int .i64 at_, .int .i64 ((xs.length : Int) - 1), .int .i64 (-1), .int .i64 (xs.length : Int)], 3, true⟩) (.slice (some ⟨γ.n, 0, none⟩) 5 0) [0, at_, (xs.length : Int) - 1, -1, (xs.length : Int)] := by
    refine .inr ⟨γ.n, 0, 0, _, rfl, by simp [AH.alloc], AH.alloc_get _ _, rfl, by simp [intK], fun i hi => ?_⟩
    have : i = 0 ∨ i = 1 ∨ i = 2 ∨ i = 3 ∨ i = 4 := by simp at hi; omega
    rcases this with rfl | rfl | rfl | rfl | rfl <;> rfl
  repeat (first
    | (refine nw_seq (nw_region fun K hK => ?_); simp [hlen, e1]; refine hK _ _ ?_; clear hK K)
    | (refine nw_region fun K hK => ?_; simp [hlen, e1]; refine hK _ _ ?_; clear hK K)
    | refine nw_seq ?_
    | refine nw_block ?_
    | (refine nw_yes ?_ ?_; focus (simp [hlen, e1]; done))
    | (refine nw_no ?_ ?_; focus (simp [hlen, e1]; done))
    | refine nw_skip ?_
    | refine nw_exit ?_
    | refine nw_ret ?_)
  generalize hδ : γ.alloc _ = δ at *
  have hfδ : Fr α.n α δ := by rw [← hδ]; exact hf.alloc hf.n _
  clear hδ hf
  obtain ⟨qi, qo, -, qidx, qld⟩ := ints_rd hL
  generalize hLL : [0, at_, (xs.length : Int) - 1, -1, (xs.length : Int)] = L at *
  have hL5 : L.length = 5 := by rw [← hLL]; rfl
  refine nw_loop (fun n s α' => ∃ (i : Nat), n = 5 - i ∧ i ≤ 5 ∧ s 0 = v ∧ s 49 = .slice (some ⟨γ.n, 0, none⟩) 5 0 ∧ s 50 = .int .i64 5 ∧ s 51 = .int .i64 (i : Int) ∧ Fr δ.n δ α')
    5 ⟨0, rfl, by omega, by simp, by simp, by simp, by simp, .refl _ _⟩ ?_
  rintro n s α' ⟨i, rfl, hi, s0, s49, s50, s51, hf'⟩
  have hf := Fr.up hfδ hf'
  by_cases c3 : i < 5
  · have c3' : (i : Int) < 5 := by omega
    have qx := qidx .i64 i (by omega)
    obtain ⟨b, hb, hc⟩ := qld _ hf' i (by omega)
    generalize L[i] = k at *
    have e2 : IntKind.i64.wrap ((i : Int) + 1) = (i : Int) + 1 := w64 (by omega)
    obtain ⟨l, hk⟩ := kidsAre xs k
    have hkl := hk.len
    repeat (first
      | (refine nw_seq (nw_region fun K hK => ?_); simp [s49, s50, s51, c3', qx, hb, hc]; refine hK _ _ ?_; clear hK K)
      | (refine nw_region fun K hK => ?_; simp [s49, s50, s51, c3', qx, hb, hc]; refine hK _ _ ?_; clear hK K)
      | refine nw_seq ?_
      | refine nw_block ?_
      | (refine nw_yes ?_ ?_; focus (simp [s49, s50, s51, c3', qx, hb, hc]; done))
      | (refine nw_no ?_ ?_; focus (simp [s49, s50, s51, c3', qx, hb, hc]; done))
      | refine nw_skip ?_
      | refine nw_exit ?_
      | refine nw_ret ?_)
    refine nw_region fun K hK => ?_
    simp [s0]
    have hf0 : Fr α'.n α' α' := .refl _ _
    refine (size_ok xs k _ v (h.fr hf) (by omega)).mono fun r β hr => ?_
    obtain ⟨rfl, hg1⟩ := hr
    simp [contK, s0]
    refine (refSize_ok xs k _ v (h.fr (Fr.up hf hg1)) (by omega)).mono fun r β2 hr => ?_
    obtain ⟨rfl, hg2⟩ := hr
    have hg := Fr.up hg1 hg2
    simp [contK, s0]
    refine (kids_any xs k l hk _ v (h.fr (Fr.up hf hg)) (by omega)).mono fun kv β3 hr => ?_
    obtain ⟨ho3, hg3⟩ := hr
    have hg := Fr.up hg hg3
    simp [contK, s0]
    refine (refKids_any xs k l hk _ v (h.fr (Fr.up hf hg)) (by omega)).mono fun ku β4 hr => ?_
    obtain ⟨ho4, hg4⟩ := hr
    have hg := Fr.up hg hg4
    simp [contK, s0]
    refine (bookSame_ok l l _ kv ku (ho3.sl.fr hg4) ho4.sl (by omega)).mono fun r β5 hr => ?_
    obtain ⟨rfl, rfl⟩ := hr
    simp [contK, s0]
    refine hK _ _ ?_
    clear hK K
    repeat (first
      | (refine nw_seq (nw_region fun K hK => ?_); simp [s51, e2]; refine hK _ _ ?_; clear hK K)
      | (refine nw_region fun K hK => ?_; simp [s51, e2]; refine hK _ _ ?_; clear hK K)
      | refine nw_seq ?_
      | refine nw_block ?_
      | (refine nw_yes ?_ ?_; focus (simp [s51, e2]; done))
      | (refine nw_no ?_ ?_; focus (simp [s51, e2]; done))
      | refine nw_skip ?_
      | refine nw_exit ?_
      | refine nw_ret ?_)
    exact ⟨5 - (i + 1), by omega, i + 1, rfl, by omega, by simp [s0], by simp [s49], by simp [s50], by simp, Fr.up hf' hg⟩
  · have : i = 5 := by omega
    subst this
    repeat (first
      | (refine nw_seq (nw_region fun K hK => ?_); simp [s0, s50, s51]; refine hK _ _ ?_; clear hK K)
      | (refine nw_region fun K hK => ?_; simp [s0, s50, s51]; refine hK _ _ ?_; clear hK K)
      | refine nw_seq ?_
      | refine nw_block ?_
      | (refine nw_yes ?_ ?_; focus (simp [s0, s50, s51]; done))
      | (refine nw_no ?_ ?_; focus (simp [s0, s50, s51]; done))
      | refine nw_skip ?_
      | refine nw_exit ?_
      | refine nw_ret ?_)
    refine nw_region fun K hK => ?_
    simp [s0]
    refine (same_ok xs _ v (h.fr hf) (by omega)).mono fun r β hr => ?_
    obtain ⟨rfl, rfl⟩ := hr
    simp [contK, ]
    refine hK _ _ ?_
    clear hK K
    repeat (first
      | (refine nw_seq (nw_region fun K hK => ?_); simp []; refine hK _ _ ?_; clear hK K)
      | (refine nw_region fun K hK => ?_; simp []; refine hK _ _ ?_; clear hK K)
      | refine nw_seq ?_
      | refine nw_block ?_
      | (refine nw_yes ?_ ?_; focus (simp []; done))
      | (refine nw_no ?_ ?_; focus (simp []; done))
      | refine nw_skip ?_
      | refine nw_exit ?_
      | refine nw_ret ?_)
    simp [hf]
end Go.Proofs.Ytggkeldedennfaa

set_option linter.unusedVariables false
set_option linter.unusedSimpArgs false
namespace Go.Proofs.Ytggkeldedennfaa
open Go Go.RowKit Go.Lay Go.Nod

theorem Ow.frx {τ : Type} {N : Nat} {e : TypeId} {K : Kd τ} {α α' : AH} {v : Value} {xs : List τ} {id : Nat} (h : Ow N e K α v xs) (hf : FrX id α α') (hid : id < N) (hk : ∀ x c, K.R α x c → K.R α' x c) : Ow N e K α' v xs := by
  rcases h with h | ⟨i, c, b, h1, h2, h3, h4, h5, h6, h7, h8⟩
  · exact .inl h
  · exact .inr ⟨i, c, b, h1, h2, Nat.lt_of_lt_of_le h3 hf.n, by rw [hf.get i h3 (by omega)]; exact h4, h5, h6, h7, fun j hj => hk _ _ (h8 j hj)⟩
theorem Sl.kp {τ : Type} {e e' : TypeId} {K : Kd τ} {α α' : AH} {v : Value} {xs : List τ} (h : Sl e K α v xs) (hf : Kp e' α α') (hn : α.n ≤ α'.n) (hne : e ≠ e') (hk : ∀ x c, K.R α x c → K.R α' x c) : Sl e K α' v xs := by
  rcases h with h | ⟨i, off, c, b, h1, h2, h3, h4, h5, h6⟩
  · exact .inl h
  · exact .inr ⟨i, off, c, b, h1, Nat.lt_of_lt_of_le h2 hn, hf i b h3 (by rw [h4]; exact hne) h2, h4, h5, fun j hj => hk _ _ (h6 j hj)⟩
theorem IsTape.kp {α α' : AH} {id : Nat} {L : List Int} {at_ : Int} {e : TypeId} (h : IsTape α id L at_) (hf : Kp e α α') (hn : α.n ≤ α'.n) (h1 : (31 : TypeId) ≠ e) (h2 : (3 : TypeId) ≠ e) : IsTape α' id L at_ := by
  obtain ⟨a1, a2, a3, a4, vL, a5, a6⟩ := h
  exact ⟨a1, a2, a3, Nat.lt_of_lt_of_le a4 hn, vL, hf id _ a5 h1 a4, Sl.kp a6 hf hn h2 fun _ _ h => h⟩
theorem FrX.fr {id N : Nat} {a b c : AH} (h : FrX id a b) (k : Fr N b c) (hn : a.n ≤ N) : FrX id a c := ⟨Nat.le_trans h.n k.n, fun i hi hne => (k.get i (by omega)).trans (h.get i hi hne)⟩
theorem flat_mono {τ : Type} {sz : Nat} {enc : τ → List Value} {h hc} {α α' : AH} : ∀ x c, (flatK (τ := τ) sz enc h hc).R α x c → (flatK sz enc h hc).R α' x c := fun _ _ h => h

set_option maxRecDepth 100000 in
theorem tape3_ok (k : Int) (α : AH) (hk : 0 ≤ k) (hk' : k ≤ 100) :
    NCalls Try.prog 22 [.int .i64 k] α (fun v α' => ∃ L, L.length = 400 ∧ Ow α.n 3 (intK .i64) α' v L ∧ Fr α.n α α') := by
  refine ncalls_of (by kernel_rfl) Try.func22 rfl (by rw [Try.ntmps22]; simp) ?_
  rw [Try.ntmps22, Try.results22]
  repeat (first
    | (refine nw_seq (nw_region fun K hK => ?_); simp []; refine hK _ _ ?_; clear hK K)
    | (refine nw_region fun K hK => ?_; simp []; refine hK _ _ ?_; clear hK K)
    | refine nw_seq ?_
    | refine nw_block ?_
    | (refine nw_yes ?_ ?_; focus (simp []; done))
    | (refine nw_no ?_ ?_; focus (simp []; done))
    | refine nw_skip ?_
    | refine nw_exit ?_
    | refine nw_ret ?_)
  refine nw_loop (fun n s α' => ∃ (i : Nat) (L : List Int), n = 400 - i ∧ i ≤ 400 ∧ L.length = i ∧ s 0 = .int .i64 k ∧ s 4 = .int .i64 (i : Int) ∧ Ow α.n 3 (intK .i64) α' (s 3) L ∧ Fr α.n α α')
    400 ⟨0, [], rfl, by omega, rfl, by simp, by simp, by simp; exact .nil, .refl _ _⟩ ?_
  rintro n s α' ⟨i, L, rfl, hi, hL, s0, s4, ho, hf⟩
  by_cases c : i < 400
  · have c' : (i : Int) < 400 := by omega
    have q1 : (i : Int) * i ≤ 400 * 400 := Int.mul_le_mul (by omega) (by omega) (by omega) (by omega)
    have q0 : 0 ≤ (i : Int) * i := Int.mul_nonneg (by omega) (by omega)
    have q2 : (i : Int) * k ≤ 400 * 100 := Int.mul_le_mul (by omega) (by omega) (by omega) (by omega)
    have q3 : 0 ≤ (i : Int) * k := Int.mul_nonneg (by omega) (by omega)
    have e1 : IntKind.i64.wrap ((i : Int) * i) = (i : Int) * i := w64 (by omega)
    have e2 : IntKind.i64.wrap ((i : Int) * i * 7) = (i : Int) * i * 7 := w64 (by omega)
    have e3 : IntKind.i64.wrap (k * 23) = k * 23 := w64 (by omega)
    have e4 : IntKind.i64.wrap ((i : Int) * i * 7 + k * 23) = (i : Int) * i * 7 + k * 23 := w64 (by omega)
    have e5 : IntKind.i64.wrap ((i : Int) * k) = (i : Int) * k := w64 (by omega)
    have e6 : IntKind.i64.wrap ((i : Int) * i * 7 + k * 23 + (i : Int) * k) = (i : Int) * i * 7 + k * 23 + (i : Int) * k := w64 (by omega)
    have e8 : IntKind.i64.wrap ((i : Int) + 1) = (i : Int) + 1 := w64 (by omega)
    generalize hq : (i : Int) * i * 7 + k * 23 + (i : Int) * k = q at *
    have m1 : 0 ≤ q.tmod 211 := Int.tmod_nonneg _ (by omega)
    have m2 : q.tmod 211 < 211 := Int.tmod_lt_of_pos q (by omega)
    have e7 : IntKind.i64.wrap (q.tmod 211) = q.tmod 211 := w64 (by omega)
    obtain ⟨v', α2, p1, p2, p3, -⟩ := ho.push el28 hf.n (x := q.tmod 211) (c := [.int .i64 (q.tmod 211)]) rfl (intK_apart _ _) (by omega) 0
    repeat (first
      | (refine nw_seq (nw_region fun K hK => ?_); simp [s0, s4, c', e1, e2, e3, e4, e5, e6, e7, e8, hq, p1]; refine hK _ _ ?_; clear hK K)
      | (refine nw_region fun K hK => ?_; simp [s0, s4, c', e1, e2, e3, e4, e5, e6, e7, e8, hq, p1]; refine hK _ _ ?_; clear hK K)
      | refine nw_seq ?_
      | refine nw_block ?_
      | (refine nw_yes ?_ ?_; focus (simp [s0, s4, c', e1, e2, e3, e4, e5, e6, e7, e8, hq, p1]; done))
      | (refine nw_no ?_ ?_; focus (simp [s0, s4, c', e1, e2, e3, e4, e5, e6, e7, e8, hq, p1]; done))
      | refine nw_skip ?_
      | refine nw_exit ?_
      | refine nw_ret ?_)
    exact ⟨400 - (i + 1), by omega, i + 1, L ++ [q.tmod 211], rfl, by omega, by simp [hL], by simp [s0], by simp, by simp; exact p2, hf.trans p3⟩
  · have : i = 400 := by omega
    subst this
    repeat (first
      | (refine nw_seq (nw_region fun K hK => ?_); simp [s4]; refine hK _ _ ?_; clear hK K)
      | (refine nw_region fun K hK => ?_; simp [s4]; refine hK _ _ ?_; clear hK K)
      | refine nw_seq ?_
      | refine nw_block ?_
      | (refine nw_yes ?_ ?_; focus (simp [s4]; done))
      | (refine nw_no ?_ ?_; focus (simp [s4]; done))
      | refine nw_skip ?_
      | refine nw_exit ?_
      | refine nw_ret ?_)
    simp
    exact ⟨L, hL, ho, hf⟩
end Go.Proofs.Ytggkeldedennfaa

set_option linter.unusedVariables false
set_option linter.unusedSimpArgs false
namespace Go.Proofs.Ytggkeldedennfaa
open Go Go.RowKit Go.Lay Go.Nod

abbrev OwN (N : Nat) (α : AH) (v : Value) (xs : List Nd) : Prop := Ow N 55 nodeK α v xs
theorem node_apart (e : TypeId) : nodeK.apart e := flatK_apart _ _ _ _ _
def TableQ (id : Nat) (L : List Int) (d : Nat) (α : AH) (v : Value) (α' : AH) : Prop := ∃ xs at_, OwN α.n α' v xs ∧ 1 ≤ xs.length ∧ xs.length ≤ 5 ^ d ∧ FrX id α α' ∧ IsTape α' id L at_

set_option maxRecDepth 100000 in
set_option maxHeartbeats 4000000 in
theorem table_ok (L : List Int) (id : Nat) (parts : Int) : ∀ (d : Nat), d ≤ 8 → ∀ (at_ : Int) (α : AH), IsTape α id L at_ →
    NCalls Try.prog 23 [.pointer (some ⟨id, 0, none⟩), .int .i64 parts, .int .i64 (d : Int)] α (fun v α' => TableQ id L d α v α') := by
  intro d
  induction d with
  | zero =>
    intro hd at_ α hT
    have hid : id < α.n := hT.2.2.2.1
    refine ncalls_of (by kernel_rfl) Try.func23 rfl (by rw [Try.ntmps23]; simp) ?_
    rw [Try.ntmps23, Try.results23]
    repeat (first
      | (refine nw_seq (nw_region fun K hK => ?_); simp []; refine hK _ _ ?_; clear hK K)
      | (refine nw_region fun K hK => ?_; simp []; refine hK _ _ ?_; clear hK K)
      | refine nw_seq ?_
      | refine nw_block ?_
      | (refine nw_yes ?_ ?_; focus (simp []; done))
      | (refine nw_no ?_ ?_; focus (simp []; done))
      | refine nw_skip ?_
      | refine nw_exit ?_
      | refine nw_ret ?_)
    refine nw_region fun K hK => ?_
    simp []
    refine (next_ok L at_ 7 id _ hT).mono fun w β hw => ?_
    obtain ⟨k, rfl, k0, k1, hX, at1, hT1⟩ := hw
    simp [contK, ]
    refine hK _ _ ?_
    clear hK K
    by_cases c0 : k = 0
    ·
      repeat (first
        | (refine nw_seq (nw_region fun K hK => ?_); simp [c0]; refine hK _ _ ?_; clear hK K)
        | (refine nw_region fun K hK => ?_; simp [c0]; refine hK _ _ ?_; clear hK K)
        | refine nw_seq ?_
        | refine nw_block ?_
        | (refine nw_yes ?_ ?_; focus (simp [c0]; done))
        | (refine nw_no ?_ ?_; focus (simp [c0]; done))
        | refine nw_skip ?_
        | refine nw_exit ?_
        | refine nw_ret ?_)
      refine nw_region fun K hK => ?_
      simp []
      refine (next_ok L at1 4 id _ hT1).mono fun w γ hw => ?_
      obtain ⟨r, rfl, r0, r1, hX1, at2, hT2⟩ := hw
      have r1 := r1 (by omega)
      have e1 : IntKind.i64.wrap (1 + r) = 1 + r := w64 (by omega)
      simp [contK, e1]
      refine hK _ _ ?_
      clear hK K
      repeat (first
        | (refine nw_seq (nw_region fun K hK => ?_); simp []; refine hK _ _ ?_; clear hK K)
        | (refine nw_region fun K hK => ?_; simp []; refine hK _ _ ?_; clear hK K)
        | refine nw_seq ?_
        | refine nw_block ?_
        | (refine nw_yes ?_ ?_; focus (simp []; done))
        | (refine nw_no ?_ ?_; focus (simp []; done))
        | refine nw_skip ?_
        | refine nw_exit ?_
        | refine nw_ret ?_)
      have hfr : Fr γ.n γ (γ.alloc ⟨[.int .i64 2, .int .i64 0, .int .i64 (1 + r)], 55, true⟩) := (Fr.refl _ _).alloc (Nat.le_refl _) _
      have hXX := hX.trans hX1
      simp
      exact ⟨[⟨2, 0, 1 + r⟩], at2, Ow.one hXX.n rfl _, by simp, by simp, hXX.fr hfr hXX.n, hT2.fr hfr⟩
    · have c0' : (k == 0) = false := by simpa using c0
      repeat (first
        | (refine nw_seq (nw_region fun K hK => ?_); simp [c0, c0']; refine hK _ _ ?_; clear hK K)
        | (refine nw_region fun K hK => ?_; simp [c0, c0']; refine hK _ _ ?_; clear hK K)
        | refine nw_seq ?_
        | refine nw_block ?_
        | (refine nw_yes ?_ ?_; focus (simp [c0, c0']; done))
        | (refine nw_no ?_ ?_; focus (simp [c0, c0']; done))
        | refine nw_skip ?_
        | refine nw_exit ?_
        | refine nw_ret ?_)
      refine nw_region fun K hK => ?_
      simp []
      refine (next_ok L at1 parts id _ hT1).mono fun w γ hw => ?_
      obtain ⟨p, rfl, p0, p1, hX1, at2, hT2⟩ := hw
      simp [contK]
      refine (next_ok L at2 4 id _ hT2).mono fun w γ' hw => ?_
      obtain ⟨r, rfl, r0, r1, hX2, at3, hT3⟩ := hw
      have r1 := r1 (by omega)
      have e1 : IntKind.i64.wrap (1 + r) = 1 + r := w64 (by omega)
      simp [contK, e1]
      refine hK _ _ ?_
      clear hK K
      repeat (first
        | (refine nw_seq (nw_region fun K hK => ?_); simp []; refine hK _ _ ?_; clear hK K)
        | (refine nw_region fun K hK => ?_; simp []; refine hK _ _ ?_; clear hK K)
        | refine nw_seq ?_
        | refine nw_block ?_
        | (refine nw_yes ?_ ?_; focus (simp []; done))
        | (refine nw_no ?_ ?_; focus (simp []; done))
        | refine nw_skip ?_
        | refine nw_exit ?_
        | refine nw_ret ?_)
      have hfr : Fr γ'.n γ' (γ'.alloc ⟨[.int .i64 1, .int .i64 p, .int .i64 (1 + r)], 55, true⟩) := (Fr.refl _ _).alloc (Nat.le_refl _) _
      have hXX := (hX.trans hX1).trans hX2
      simp
      exact ⟨[⟨1, p, 1 + r⟩], at3, Ow.one hXX.n rfl _, by simp, by simp, hXX.fr hfr hXX.n, hT3.fr hfr⟩
  | succ d ih =>
    intro hd at_ α hT
    have ih := ih (by omega)
    have hid : id < α.n := hT.2.2.2.1
    have h5 : 5 ^ (d + 1) = 5 * 5 ^ d := by rw [Nat.pow_succ]; omega
    have h51 : 1 ≤ 5 ^ d := Nat.one_le_pow _ _ (by omega)
    have h58 : 5 ^ d ≤ 5 ^ 7 := Nat.pow_le_pow_right (by omega) (by omega)
    have cd : ¬ ((d : Int) + 1 < 1) := by omega
    have ed : IntKind.i64.wrap ((d : Int) + 1 - 1) = d := by rw [w64 (by omega)]; omega
    have ed' : IntKind.i64.wrap (d : Int) = d := w64 (by omega)
    refine ncalls_of (by kernel_rfl) Try.func23 rfl (by rw [Try.ntmps23]; simp) ?_
    rw [Try.ntmps23, Try.results23]
    repeat (first
      | (refine nw_seq (nw_region fun K hK => ?_); simp []; refine hK _ _ ?_; clear hK K)
      | (refine nw_region fun K hK => ?_; simp []; refine hK _ _ ?_; clear hK K)
      | refine nw_seq ?_
      | refine nw_block ?_
      | (refine nw_yes ?_ ?_; focus (simp []; done))
      | (refine nw_no ?_ ?_; focus (simp []; done))
      | refine nw_skip ?_
      | refine nw_exit ?_
      | refine nw_ret ?_)
    refine nw_region fun K hK => ?_
    simp []
    refine (next_ok L at_ 7 id _ hT).mono fun w β hw => ?_
    obtain ⟨k, rfl, k0, k1, hX, at1, hT1⟩ := hw
    simp [contK, ]
    refine hK _ _ ?_
    clear hK K
    by_cases c2 : k < 2
    · by_cases c0 : k = 0
      ·
        repeat (first
          | (refine nw_seq (nw_region fun K hK => ?_); simp [c0, cd, c2]; refine hK _ _ ?_; clear hK K)
          | (refine nw_region fun K hK => ?_; simp [c0, cd, c2]; refine hK _ _ ?_; clear hK K)
          | refine nw_seq ?_
          | refine nw_block ?_
          | (refine nw_yes ?_ ?_; focus (simp [c0, cd, c2]; done))
          | (refine nw_no ?_ ?_; focus (simp [c0, cd, c2]; done))
          | refine nw_skip ?_
          | refine nw_exit ?_
          | refine nw_ret ?_)
        refine nw_region fun K hK => ?_
        simp []
        refine (next_ok L at1 4 id _ hT1).mono fun w γ hw => ?_
        obtain ⟨r, rfl, r0, r1, hX1, at2, hT2⟩ := hw
        have r1 := r1 (by omega)
        have e1 : IntKind.i64.wrap (1 + r) = 1 + r := w64 (by omega)
        simp [contK, e1]
        refine hK _ _ ?_
        clear hK K
        repeat (first
          | (refine nw_seq (nw_region fun K hK => ?_); simp []; refine hK _ _ ?_; clear hK K)
          | (refine nw_region fun K hK => ?_; simp []; refine hK _ _ ?_; clear hK K)
          | refine nw_seq ?_
          | refine nw_block ?_
          | (refine nw_yes ?_ ?_; focus (simp []; done))
          | (refine nw_no ?_ ?_; focus (simp []; done))
          | refine nw_skip ?_
          | refine nw_exit ?_
          | refine nw_ret ?_)
        have hfr : Fr γ.n γ (γ.alloc ⟨[.int .i64 2, .int .i64 0, .int .i64 (1 + r)], 55, true⟩) := (Fr.refl _ _).alloc (Nat.le_refl _) _
        have hXX := hX.trans hX1
        simp
        exact ⟨[⟨2, 0, 1 + r⟩], at2, Ow.one hXX.n rfl _, by simp, by simp; omega, hXX.fr hfr hXX.n, hT2.fr hfr⟩
      · have c0' : (k == 0) = false := by simpa using c0
        repeat (first
          | (refine nw_seq (nw_region fun K hK => ?_); simp [c0, c0', cd, c2]; refine hK _ _ ?_; clear hK K)
          | (refine nw_region fun K hK => ?_; simp [c0, c0', cd, c2]; refine hK _ _ ?_; clear hK K)
          | refine nw_seq ?_
          | refine nw_block ?_
          | (refine nw_yes ?_ ?_; focus (simp [c0, c0', cd, c2]; done))
          | (refine nw_no ?_ ?_; focus (simp [c0, c0', cd, c2]; done))
          | refine nw_skip ?_
          | refine nw_exit ?_
          | refine nw_ret ?_)
        refine nw_region fun K hK => ?_
        simp []
        refine (next_ok L at1 parts id _ hT1).mono fun w γ hw => ?_
        obtain ⟨p, rfl, p0, p1, hX1, at2, hT2⟩ := hw
        simp [contK]
        refine (next_ok L at2 4 id _ hT2).mono fun w γ' hw => ?_
        obtain ⟨r, rfl, r0, r1, hX2, at3, hT3⟩ := hw
        have r1 := r1 (by omega)
        have e1 : IntKind.i64.wrap (1 + r) = 1 + r := w64 (by omega)
        simp [contK, e1]
        refine hK _ _ ?_
        clear hK K
        repeat (first
          | (refine nw_seq (nw_region fun K hK => ?_); simp []; refine hK _ _ ?_; clear hK K)
          | (refine nw_region fun K hK => ?_; simp []; refine hK _ _ ?_; clear hK K)
          | refine nw_seq ?_
          | refine nw_block ?_
          | (refine nw_yes ?_ ?_; focus (simp []; done))
          | (refine nw_no ?_ ?_; focus (simp []; done))
          | refine nw_skip ?_
          | refine nw_exit ?_
          | refine nw_ret ?_)
        have hfr : Fr γ'.n γ' (γ'.alloc ⟨[.int .i64 1, .int .i64 p, .int .i64 (1 + r)], 55, true⟩) := (Fr.refl _ _).alloc (Nat.le_refl _) _
        have hXX := (hX.trans hX1).trans hX2
        simp
        exact ⟨[⟨1, p, 1 + r⟩], at3, Ow.one hXX.n rfl _, by simp, by simp; omega, hXX.fr hfr hXX.n, hT3.fr hfr⟩
    by_cases c3 : k = 2
    ·
      repeat (first
        | (refine nw_seq (nw_region fun K hK => ?_); simp [cd, c2, c3]; refine hK _ _ ?_; clear hK K)
        | (refine nw_region fun K hK => ?_; simp [cd, c2, c3]; refine hK _ _ ?_; clear hK K)
        | refine nw_seq ?_
        | refine nw_block ?_
        | (refine nw_yes ?_ ?_; focus (simp [cd, c2, c3]; done))
        | (refine nw_no ?_ ?_; focus (simp [cd, c2, c3]; done))
        | refine nw_skip ?_
        | refine nw_exit ?_
        | refine nw_ret ?_)
      refine nw_region fun K hK => ?_
      simp []
      refine (next_ok L at1 3 id _ hT1).mono fun w γ hw => ?_
      obtain ⟨r, rfl, r0, r1, hX1, at2, hT2⟩ := hw
      have r1 := r1 (by omega)
      have e1 : IntKind.i64.wrap (1 + r) = 1 + r := w64 (by omega)
      simp [contK, e1, ed, ed']
      have hfr : Fr γ.n γ (γ.alloc ⟨[.int .i64 4, .int .i64 0, .int .i64 (1 + r)], 55, true⟩) := (Fr.refl _ _).alloc (Nat.le_refl _) _
      have hXX := hX.trans hX1
      have o1 : OwN α.n (γ.alloc ⟨[.int .i64 4, .int .i64 0, .int .i64 (1 + r)], 55, true⟩) (.slice (some ⟨γ.n, 0, none⟩) 1 0) [⟨4, 0, 1 + r⟩] := Ow.one hXX.n rfl _
      have hXX := hXX.fr hfr hXX.n
      have hT2 := hT2.fr hfr
      generalize γ.alloc _ = γ1 at *
      refine (ih at2 _ hT2).mono fun w γ2 hw => ?_
      obtain ⟨xs, at3, o2, x1, x2, hX2, hT3⟩ := hw
      have o1 := Ow.frx o1 hX2 hid flat_mono
      obtain ⟨v', α2, a1, a2, a3, a4⟩ := o1.append el49 (Nat.le_trans hXX.n hX2.n) o2.sl (node_apart _) (by simp; omega)
      simp [contK, a1]
      refine hK _ _ ?_
      clear hK K
      repeat (first
        | (refine nw_seq (nw_region fun K hK => ?_); simp []; refine hK _ _ ?_; clear hK K)
        | (refine nw_region fun K hK => ?_; simp []; refine hK _ _ ?_; clear hK K)
        | refine nw_seq ?_
        | refine nw_block ?_
        | (refine nw_yes ?_ ?_; focus (simp []; done))
        | (refine nw_no ?_ ?_; focus (simp []; done))
        | refine nw_skip ?_
        | refine nw_exit ?_
        | refine nw_ret ?_)
      simp
      exact ⟨_, at3, a2, by simp, by simp; omega, (hXX.trans hX2).fr a3 (Nat.le_refl _), hT3.kp a4 a3.n (show (31 : Nat) ≠ 55 by decide) (show (3 : Nat) ≠ 55 by decide)⟩
    have c3' : (k == 2) = false := by simpa using c3
    repeat (first
      | (refine nw_seq (nw_region fun K hK => ?_); simp [cd, c2, c3, c3']; refine hK _ _ ?_; clear hK K)
      | (refine nw_region fun K hK => ?_; simp [cd, c2, c3, c3']; refine hK _ _ ?_; clear hK K)
      | refine nw_seq ?_
      | refine nw_block ?_
      | (refine nw_yes ?_ ?_; focus (simp [cd, c2, c3, c3']; done))
      | (refine nw_no ?_ ?_; focus (simp [cd, c2, c3, c3']; done))
      | refine nw_skip ?_
      | refine nw_exit ?_
      | refine nw_ret ?_)
    refine nw_region fun K hK => ?_
    simp []
    refine (next_ok L at1 4 id _ hT1).mono fun w γ hw => ?_
    obtain ⟨r, rfl, r0, r1, hX1, at2, hT2⟩ := hw
    have r1 := r1 (by omega)
    have e1 : IntKind.i64.wrap (1 + r) = 1 + r := w64 (by omega)
    simp [contK, e1]
    refine hK _ _ ?_
    clear hK K
    repeat (first
      | (refine nw_seq (nw_region fun K hK => ?_); simp []; refine hK _ _ ?_; clear hK K)
      | (refine nw_region fun K hK => ?_; simp []; refine hK _ _ ?_; clear hK K)
      | refine nw_seq ?_
      | refine nw_block ?_
      | (refine nw_yes ?_ ?_; focus (simp []; done))
      | (refine nw_no ?_ ?_; focus (simp []; done))
      | refine nw_skip ?_
      | refine nw_exit ?_
      | refine nw_ret ?_)
    have hfr : Fr γ.n γ (γ.alloc ⟨[.int .i64 3, .int .i64 0, .int .i64 (1 + r)], 55, true⟩) := (Fr.refl _ _).alloc (Nat.le_refl _) _
    have hXX := hX.trans hX1
    have o1 : OwN α.n (γ.alloc ⟨[.int .i64 3, .int .i64 0, .int .i64 (1 + r)], 55, true⟩) (.slice (some ⟨γ.n, 0, none⟩) 1 0) [⟨3, 0, 1 + r⟩] := Ow.one hXX.n rfl _
    have hXX := hXX.fr hfr hXX.n
    have hT2 := hT2.fr hfr
    generalize γ.alloc _ = γ1 at *
    obtain ⟨n, hn⟩ := Int.eq_ofNat_of_zero_le (show 0 ≤ 1 + r by omega)
    refine nw_loop (fun m s α' => ∃ (i : Nat) (ys : List Nd) (at3 : Int), m = n - i ∧ i ≤ n ∧ s 0 = .pointer (some ⟨id, 0, none⟩) ∧ s 1 = .int .i64 parts ∧ s 2 = .int .i64 ((d : Int) + 1) ∧ s 8 = .int .i64 (1 + r) ∧ s 10 = .int .i64 (i : Int) ∧
        OwN α.n α' (s 9) ys ∧ 1 ≤ ys.length ∧ ys.length ≤ 1 + i * 5 ^ d ∧ FrX id α α' ∧ IsTape α' id L at3)
      n ⟨0, _, at2, rfl, by omega, by simp, by simp, by simp, by simp, by simp, by simp; exact o1, by simp, by simp, hXX, hT2⟩ ?_
    rintro m s α' ⟨i, ys, at3, rfl, hi, s0, s1, s2, s8, s10, ho, y0, y1, hX', hT'⟩
    by_cases c4 : i < n
    · have c4' : (i : Int) < 1 + r := by omega
      have hin : i * 5 ^ d ≤ 3 * 5 ^ d := Nat.mul_le_mul_right _ (by omega)
      have e2 : IntKind.i64.wrap ((i : Int) + 1) = (i : Int) + 1 := w64 (by omega)
      repeat (first
        | (refine nw_seq (nw_region fun K hK => ?_); simp [s8, s10, c4']; refine hK _ _ ?_; clear hK K)
        | (refine nw_region fun K hK => ?_; simp [s8, s10, c4']; refine hK _ _ ?_; clear hK K)
        | refine nw_seq ?_
        | refine nw_block ?_
        | (refine nw_yes ?_ ?_; focus (simp [s8, s10, c4']; done))
        | (refine nw_no ?_ ?_; focus (simp [s8, s10, c4']; done))
        | refine nw_skip ?_
        | refine nw_exit ?_
        | refine nw_ret ?_)
      refine nw_region fun K hK => ?_
      simp [s0, s1, s2, ed, ed']
      refine (ih at3 _ hT').mono fun w γ2 hw => ?_
      obtain ⟨xs, at4, o2, x1, x2, hX2, hT3⟩ := hw
      have o1 := Ow.frx ho hX2 hid flat_mono
      obtain ⟨v', α2, a1, a2, a3, a4⟩ := o1.append el49 (Nat.le_trans hX'.n hX2.n) o2.sl (node_apart _) (by omega)
      simp [contK, a1]
      refine hK _ _ ?_
      clear hK K
      repeat (first
        | (refine nw_seq (nw_region fun K hK => ?_); simp [s10, e2]; refine hK _ _ ?_; clear hK K)
        | (refine nw_region fun K hK => ?_; simp [s10, e2]; refine hK _ _ ?_; clear hK K)
        | refine nw_seq ?_
        | refine nw_block ?_
        | (refine nw_yes ?_ ?_; focus (simp [s10, e2]; done))
        | (refine nw_no ?_ ?_; focus (simp [s10, e2]; done))
        | refine nw_skip ?_
        | refine nw_exit ?_
        | refine nw_ret ?_)
      refine ⟨n - (i + 1), by omega, i + 1, ys ++ xs, at4, rfl, by omega, by simp [s0], by simp [s1], by simp [s2], by simp [s8], by simp, by simp; exact a2, by simp; omega, ?_, (hX'.trans hX2).fr a3 (Nat.le_refl _), hT3.kp a4 a3.n (show (31 : Nat) ≠ 55 by decide) (show (3 : Nat) ≠ 55 by decide)⟩
      rw [List.length_append, Nat.succ_mul]
      omega
    · have : i = n := by omega
      subst this
      have c4' : ¬ ((i : Int) < 1 + r) := by omega
      have hin : i * 5 ^ d ≤ 4 * 5 ^ d := Nat.mul_le_mul_right _ (by omega)
      repeat (first
        | (refine nw_seq (nw_region fun K hK => ?_); simp [s8, s10, c4']; refine hK _ _ ?_; clear hK K)
        | (refine nw_region fun K hK => ?_; simp [s8, s10, c4']; refine hK _ _ ?_; clear hK K)
        | refine nw_seq ?_
        | refine nw_block ?_
        | (refine nw_yes ?_ ?_; focus (simp [s8, s10, c4']; done))
        | (refine nw_no ?_ ?_; focus (simp [s8, s10, c4']; done))
        | refine nw_skip ?_
        | refine nw_exit ?_
        | refine nw_ret ?_)
      simp
      exact ⟨ys, at3, ho, y0, by omega, hX', hT'⟩
end Go.Proofs.Ytggkeldedennfaa
