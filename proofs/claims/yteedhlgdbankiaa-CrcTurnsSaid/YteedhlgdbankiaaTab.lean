/- The seat's types, as the walk knows them: printed by a program of this session (wip/tools/gen.py). -/
import Derived.Test.YteedhlgdbankiaaProg
import Derived.Test.YteedhlgdbankiaaPvZ
import Derived.KernelRfl
set_option linter.unusedVariables false
namespace Go.Proofs.Yteedhlgdbankiaa.Pv
open Go Go.Proofs.Yteedhlgdbankiaa.Pv
abbrev ti1 : TI := { kd := .func, size := 1, bytes := 8, zero := [.nilFunc] }
theorem tiok1 : TIok Try.prog 1 ti1 := TIok.of (z := (.nilFunc)) (by kernel_rfl) rfl (fun h => by cases h) rfl ⟨_, _, _, Try.underlying1⟩ (by decide)
abbrev ti2 : TI := { kd := .int .i64, size := 1, bytes := 8, zero := [.int .i64 0] }
theorem tiok2 : TIok Try.prog 2 ti2 := TIok.of (z := (.int .i64 0)) (by kernel_rfl) rfl (fun h => by cases h) rfl Try.underlying2 (by decide)
abbrev ti3 : TI := { kd := .int .i64, size := 1, bytes := 8, zero := [.int .i64 0] }
theorem tiok3 : TIok Try.prog 3 ti3 := TIok.of (z := (.int .i64 0)) (by kernel_rfl) rfl (fun h => by cases h) rfl Try.underlying3 (by decide)
abbrev ti4 : TI := { kd := .bool, size := 1, bytes := 1, zero := [.bool false] }
theorem tiok4 : TIok Try.prog 4 ti4 := TIok.of (z := (.bool false)) (by kernel_rfl) rfl (fun h => by cases h) rfl Try.underlying4 (by decide)
abbrev ti5 : TI := { kd := .int .u8, size := 1, bytes := 1, zero := [.int .u8 0] }
theorem tiok5 : TIok Try.prog 5 ti5 := TIok.of (z := (.int .u8 0)) (by kernel_rfl) rfl (fun h => by cases h) rfl Try.underlying5 (by decide)
abbrev ti6 : TI := { kd := .int .u8, size := 1, bytes := 1, zero := [.int .u8 0] }
theorem tiok6 : TIok Try.prog 6 ti6 := TIok.of (z := (.int .u8 0)) (by kernel_rfl) rfl (fun h => by cases h) rfl Try.underlying6 (by decide)
abbrev ti7 : TI := { kd := .struct [(0, 2), (1, 3), (2, 4), (3, 6)], size := 4, bytes := 24, zero := [.int .i64 0, .int .i64 0, .bool false, .int .u8 0] }
theorem tiok7 : TIok Try.prog 7 ti7 := TIok.of (z := (.agg #[.int .i64 0, .int .i64 0, .bool false, .int .u8 0])) (by kernel_rfl) rfl (fun _ => rfl) rfl ⟨_, Try.underlying7, rfl⟩ (by decide)
abbrev ti8 : TI := { kd := .struct [(0, 2), (1, 3), (2, 4), (3, 6)], size := 4, bytes := 24, zero := [.int .i64 0, .int .i64 0, .bool false, .int .u8 0] }
theorem tiok8 : TIok Try.prog 8 ti8 := TIok.of (z := (.agg #[.int .i64 0, .int .i64 0, .bool false, .int .u8 0])) (by kernel_rfl) rfl (fun _ => rfl) rfl ⟨_, Try.underlying8, rfl⟩ (by decide)
abbrev ti9 : TI := { kd := .str, size := 1, bytes := 16, zero := [.string ⟨#[]⟩] }
theorem tiok9 : TIok Try.prog 9 ti9 := TIok.of (z := (.string ⟨#[]⟩)) (by kernel_rfl) rfl (fun h => by cases h) rfl Try.underlying9 (by decide)
abbrev ti10 : TI := { kd := .str, size := 1, bytes := 16, zero := [.string ⟨#[]⟩] }
theorem tiok10 : TIok Try.prog 10 ti10 := TIok.of (z := (.string ⟨#[]⟩)) (by kernel_rfl) rfl (fun h => by cases h) rfl Try.underlying10 (by decide)
abbrev ti11 : TI := { kd := .str, size := 1, bytes := 16, zero := [.string ⟨#[]⟩] }
theorem tiok11 : TIok Try.prog 11 ti11 := TIok.of (z := (.string ⟨#[]⟩)) (by kernel_rfl) rfl (fun h => by cases h) rfl Try.underlying11 (by decide)
abbrev ti12 : TI := { kd := .int .u64, size := 1, bytes := 8, zero := [.int .u64 0] }
theorem tiok12 : TIok Try.prog 12 ti12 := TIok.of (z := (.int .u64 0)) (by kernel_rfl) rfl (fun h => by cases h) rfl Try.underlying12 (by decide)
abbrev ti13 : TI := { kd := .struct [(0, 9), (1, 12)], size := 2, bytes := 24, zero := [.string ⟨#[]⟩, .int .u64 0] }
theorem tiok13 : TIok Try.prog 13 ti13 := TIok.of (z := (.agg #[.string ⟨#[]⟩, .int .u64 0])) (by kernel_rfl) rfl (fun _ => rfl) rfl ⟨_, Try.underlying13, rfl⟩ (by decide)
abbrev ti14 : TI := { kd := .struct [(0, 9), (1, 12)], size := 2, bytes := 24, zero := [.string ⟨#[]⟩, .int .u64 0] }
theorem tiok14 : TIok Try.prog 14 ti14 := TIok.of (z := (.agg #[.string ⟨#[]⟩, .int .u64 0])) (by kernel_rfl) rfl (fun _ => rfl) rfl ⟨_, Try.underlying14, rfl⟩ (by decide)
abbrev ti15 : TI := { kd := .ptr 87, size := 1, bytes := 8, zero := [.pointer none] }
theorem tiok15 : TIok Try.prog 15 ti15 := TIok.of (z := (.pointer none)) (by kernel_rfl) rfl (fun h => by cases h) rfl Try.underlying15 (by decide)
abbrev ti16 : TI := { kd := .ptr 90, size := 1, bytes := 8, zero := [.pointer none] }
theorem tiok16 : TIok Try.prog 16 ti16 := TIok.of (z := (.pointer none)) (by kernel_rfl) rfl (fun h => by cases h) rfl Try.underlying16 (by decide)
abbrev ti17 : TI := { kd := .ptr 99, size := 1, bytes := 8, zero := [.pointer none] }
theorem tiok17 : TIok Try.prog 17 ti17 := TIok.of (z := (.pointer none)) (by kernel_rfl) rfl (fun h => by cases h) rfl Try.underlying17 (by decide)
abbrev ti18 : TI := { kd := .struct [(0, 17)], size := 1, bytes := 8, zero := [.pointer none] }
theorem tiok18 : TIok Try.prog 18 ti18 := TIok.of (z := (.agg #[.pointer none])) (by kernel_rfl) rfl (fun _ => rfl) rfl ⟨_, Try.underlying18, rfl⟩ (by decide)
abbrev ti19 : TI := { kd := .struct [(0, 17)], size := 1, bytes := 8, zero := [.pointer none] }
theorem tiok19 : TIok Try.prog 19 ti19 := TIok.of (z := (.agg #[.pointer none])) (by kernel_rfl) rfl (fun _ => rfl) rfl ⟨_, Try.underlying19, rfl⟩ (by decide)
abbrev ti21 : TI := { kd := .int .i32, size := 1, bytes := 4, zero := [.int .i32 0] }
theorem tiok21 : TIok Try.prog 21 ti21 := TIok.of (z := (.int .i32 0)) (by kernel_rfl) rfl (fun h => by cases h) rfl Try.underlying21 (by decide)
abbrev ti22 : TI := { kd := .slice 25, size := 1, bytes := 24, zero := [.slice none 0 0] }
theorem tiok22 : TIok Try.prog 22 ti22 := TIok.of (z := (.slice none 0 0)) (by kernel_rfl) rfl (fun h => by cases h) rfl Try.underlying22 (by decide)
abbrev ti23 : TI := { kd := .slice 5, size := 1, bytes := 24, zero := [.slice none 0 0] }
theorem tiok23 : TIok Try.prog 23 ti23 := TIok.of (z := (.slice none 0 0)) (by kernel_rfl) rfl (fun h => by cases h) rfl Try.underlying23 (by decide)
abbrev ti24 : TI := { kd := .struct [(0, 3), (1, 3), (2, 23)], size := 3, bytes := 40, zero := [.int .i64 0, .int .i64 0, .slice none 0 0] }
theorem tiok24 : TIok Try.prog 24 ti24 := TIok.of (z := (.agg #[.int .i64 0, .int .i64 0, .slice none 0 0])) (by kernel_rfl) rfl (fun _ => rfl) rfl ⟨_, Try.underlying24, rfl⟩ (by decide)
abbrev ti25 : TI := { kd := .struct [(0, 3), (1, 3), (2, 23)], size := 3, bytes := 40, zero := [.int .i64 0, .int .i64 0, .slice none 0 0] }
theorem tiok25 : TIok Try.prog 25 ti25 := TIok.of (z := (.agg #[.int .i64 0, .int .i64 0, .slice none 0 0])) (by kernel_rfl) rfl (fun _ => rfl) rfl ⟨_, Try.underlying25, rfl⟩ (by decide)
abbrev ti26 : TI := { kd := .func, size := 1, bytes := 8, zero := [.nilFunc] }
theorem tiok26 : TIok Try.prog 26 ti26 := TIok.of (z := (.nilFunc)) (by kernel_rfl) rfl (fun h => by cases h) rfl ⟨_, _, _, Try.underlying26⟩ (by decide)
abbrev ti27 : TI := { kd := .func, size := 1, bytes := 8, zero := [.nilFunc] }
theorem tiok27 : TIok Try.prog 27 ti27 := TIok.of (z := (.nilFunc)) (by kernel_rfl) rfl (fun h => by cases h) rfl ⟨_, _, _, Try.underlying27⟩ (by decide)
abbrev ti28 : TI := { kd := .func, size := 1, bytes := 8, zero := [.nilFunc] }
theorem tiok28 : TIok Try.prog 28 ti28 := TIok.of (z := (.nilFunc)) (by kernel_rfl) rfl (fun h => by cases h) rfl ⟨_, _, _, Try.underlying28⟩ (by decide)
abbrev ti29 : TI := { kd := .slice 4, size := 1, bytes := 24, zero := [.slice none 0 0] }
theorem tiok29 : TIok Try.prog 29 ti29 := TIok.of (z := (.slice none 0 0)) (by kernel_rfl) rfl (fun h => by cases h) rfl Try.underlying29 (by decide)
abbrev ti30 : TI := { kd := .ptr 68, size := 1, bytes := 8, zero := [.pointer none] }
theorem tiok30 : TIok Try.prog 30 ti30 := TIok.of (z := (.pointer none)) (by kernel_rfl) rfl (fun h => by cases h) rfl Try.underlying30 (by decide)
abbrev ti31 : TI := { kd := .func, size := 1, bytes := 8, zero := [.nilFunc] }
theorem tiok31 : TIok Try.prog 31 ti31 := TIok.of (z := (.nilFunc)) (by kernel_rfl) rfl (fun h => by cases h) rfl ⟨_, _, _, Try.underlying31⟩ (by decide)
abbrev ti32 : TI := { kd := .struct [(0, 3), (1, 3), (2, 23)], size := 3, bytes := 40, zero := [.int .i64 0, .int .i64 0, .slice none 0 0] }
theorem tiok32 : TIok Try.prog 32 ti32 := TIok.of (z := (.agg #[.int .i64 0, .int .i64 0, .slice none 0 0])) (by kernel_rfl) rfl (fun _ => rfl) rfl ⟨_, Try.underlying32, rfl⟩ (by decide)
abbrev ti33 : TI := { kd := .struct [(0, 3), (1, 3), (2, 23)], size := 3, bytes := 40, zero := [.int .i64 0, .int .i64 0, .slice none 0 0] }
theorem tiok33 : TIok Try.prog 33 ti33 := TIok.of (z := (.agg #[.int .i64 0, .int .i64 0, .slice none 0 0])) (by kernel_rfl) rfl (fun _ => rfl) rfl ⟨_, Try.underlying33, rfl⟩ (by decide)
abbrev ti35 : TI := { kd := .func, size := 1, bytes := 8, zero := [.nilFunc] }
theorem tiok35 : TIok Try.prog 35 ti35 := TIok.of (z := (.nilFunc)) (by kernel_rfl) rfl (fun h => by cases h) rfl ⟨_, _, _, Try.underlying35⟩ (by decide)
abbrev ti36 : TI := { kd := .func, size := 1, bytes := 8, zero := [.nilFunc] }
theorem tiok36 : TIok Try.prog 36 ti36 := TIok.of (z := (.nilFunc)) (by kernel_rfl) rfl (fun h => by cases h) rfl ⟨_, _, _, Try.underlying36⟩ (by decide)
abbrev ti37 : TI := { kd := .func, size := 1, bytes := 8, zero := [.nilFunc] }
theorem tiok37 : TIok Try.prog 37 ti37 := TIok.of (z := (.nilFunc)) (by kernel_rfl) rfl (fun h => by cases h) rfl ⟨_, _, _, Try.underlying37⟩ (by decide)
abbrev ti38 : TI := { kd := .func, size := 1, bytes := 8, zero := [.nilFunc] }
theorem tiok38 : TIok Try.prog 38 ti38 := TIok.of (z := (.nilFunc)) (by kernel_rfl) rfl (fun h => by cases h) rfl ⟨_, _, _, Try.underlying38⟩ (by decide)
abbrev ti39 : TI := { kd := .slice 33, size := 1, bytes := 24, zero := [.slice none 0 0] }
theorem tiok39 : TIok Try.prog 39 ti39 := TIok.of (z := (.slice none 0 0)) (by kernel_rfl) rfl (fun h => by cases h) rfl Try.underlying39 (by decide)
abbrev ti40 : TI := { kd := .func, size := 1, bytes := 8, zero := [.nilFunc] }
theorem tiok40 : TIok Try.prog 40 ti40 := TIok.of (z := (.nilFunc)) (by kernel_rfl) rfl (fun h => by cases h) rfl ⟨_, _, _, Try.underlying40⟩ (by decide)
abbrev ti41 : TI := { kd := .func, size := 1, bytes := 8, zero := [.nilFunc] }
theorem tiok41 : TIok Try.prog 41 ti41 := TIok.of (z := (.nilFunc)) (by kernel_rfl) rfl (fun h => by cases h) rfl ⟨_, _, _, Try.underlying41⟩ (by decide)
abbrev ti42 : TI := { kd := .func, size := 1, bytes := 8, zero := [.nilFunc] }
theorem tiok42 : TIok Try.prog 42 ti42 := TIok.of (z := (.nilFunc)) (by kernel_rfl) rfl (fun h => by cases h) rfl ⟨_, _, _, Try.underlying42⟩ (by decide)
abbrev ti43 : TI := { kd := .func, size := 1, bytes := 8, zero := [.nilFunc] }
theorem tiok43 : TIok Try.prog 43 ti43 := TIok.of (z := (.nilFunc)) (by kernel_rfl) rfl (fun h => by cases h) rfl ⟨_, _, _, Try.underlying43⟩ (by decide)
abbrev ti44 : TI := { kd := .int .u16, size := 1, bytes := 2, zero := [.int .u16 0] }
theorem tiok44 : TIok Try.prog 44 ti44 := TIok.of (z := (.int .u16 0)) (by kernel_rfl) rfl (fun h => by cases h) rfl Try.underlying44 (by decide)
abbrev ti46 : TI := { kd := .func, size := 1, bytes := 8, zero := [.nilFunc] }
theorem tiok46 : TIok Try.prog 46 ti46 := TIok.of (z := (.nilFunc)) (by kernel_rfl) rfl (fun h => by cases h) rfl ⟨_, _, _, Try.underlying46⟩ (by decide)
abbrev ti47 : TI := { kd := .func, size := 1, bytes := 8, zero := [.nilFunc] }
theorem tiok47 : TIok Try.prog 47 ti47 := TIok.of (z := (.nilFunc)) (by kernel_rfl) rfl (fun h => by cases h) rfl ⟨_, _, _, Try.underlying47⟩ (by decide)
abbrev ti48 : TI := { kd := .int .u64, size := 1, bytes := 8, zero := [.int .u64 0] }
theorem tiok48 : TIok Try.prog 48 ti48 := TIok.of (z := (.int .u64 0)) (by kernel_rfl) rfl (fun h => by cases h) rfl Try.underlying48 (by decide)
abbrev ti49 : TI := { kd := .func, size := 1, bytes := 8, zero := [.nilFunc] }
theorem tiok49 : TIok Try.prog 49 ti49 := TIok.of (z := (.nilFunc)) (by kernel_rfl) rfl (fun h => by cases h) rfl ⟨_, _, _, Try.underlying49⟩ (by decide)
abbrev ti50 : TI := { kd := .func, size := 1, bytes := 8, zero := [.nilFunc] }
theorem tiok50 : TIok Try.prog 50 ti50 := TIok.of (z := (.nilFunc)) (by kernel_rfl) rfl (fun h => by cases h) rfl ⟨_, _, _, Try.underlying50⟩ (by decide)
abbrev ti51 : TI := { kd := .func, size := 1, bytes := 8, zero := [.nilFunc] }
theorem tiok51 : TIok Try.prog 51 ti51 := TIok.of (z := (.nilFunc)) (by kernel_rfl) rfl (fun h => by cases h) rfl ⟨_, _, _, Try.underlying51⟩ (by decide)
abbrev ti52 : TI := { kd := .struct [(0, 3), (1, 3)], size := 2, bytes := 16, zero := [.int .i64 0, .int .i64 0] }
theorem tiok52 : TIok Try.prog 52 ti52 := TIok.of (z := (.agg #[.int .i64 0, .int .i64 0])) (by kernel_rfl) rfl (fun _ => rfl) rfl ⟨_, Try.underlying52, rfl⟩ (by decide)
abbrev ti53 : TI := { kd := .struct [(0, 3), (1, 3)], size := 2, bytes := 16, zero := [.int .i64 0, .int .i64 0] }
theorem tiok53 : TIok Try.prog 53 ti53 := TIok.of (z := (.agg #[.int .i64 0, .int .i64 0])) (by kernel_rfl) rfl (fun _ => rfl) rfl ⟨_, Try.underlying53, rfl⟩ (by decide)
abbrev ti54 : TI := { kd := .slice 3, size := 1, bytes := 24, zero := [.slice none 0 0] }
theorem tiok54 : TIok Try.prog 54 ti54 := TIok.of (z := (.slice none 0 0)) (by kernel_rfl) rfl (fun h => by cases h) rfl Try.underlying54 (by decide)
abbrev ti55 : TI := { kd := .func, size := 1, bytes := 8, zero := [.nilFunc] }
theorem tiok55 : TIok Try.prog 55 ti55 := TIok.of (z := (.nilFunc)) (by kernel_rfl) rfl (fun h => by cases h) rfl ⟨_, _, _, Try.underlying55⟩ (by decide)
abbrev ti56 : TI := { kd := .slice 53, size := 1, bytes := 24, zero := [.slice none 0 0] }
theorem tiok56 : TIok Try.prog 56 ti56 := TIok.of (z := (.slice none 0 0)) (by kernel_rfl) rfl (fun h => by cases h) rfl Try.underlying56 (by decide)
abbrev ti57 : TI := { kd := .func, size := 1, bytes := 8, zero := [.nilFunc] }
theorem tiok57 : TIok Try.prog 57 ti57 := TIok.of (z := (.nilFunc)) (by kernel_rfl) rfl (fun h => by cases h) rfl ⟨_, _, _, Try.underlying57⟩ (by decide)
abbrev ti59 : TI := { kd := .func, size := 1, bytes := 8, zero := [.nilFunc] }
theorem tiok59 : TIok Try.prog 59 ti59 := TIok.of (z := (.nilFunc)) (by kernel_rfl) rfl (fun h => by cases h) rfl ⟨_, _, _, Try.underlying59⟩ (by decide)
abbrev ti61 : TI := { kd := .func, size := 1, bytes := 8, zero := [.nilFunc] }
theorem tiok61 : TIok Try.prog 61 ti61 := TIok.of (z := (.nilFunc)) (by kernel_rfl) rfl (fun h => by cases h) rfl ⟨_, _, _, Try.underlying61⟩ (by decide)
abbrev ti62 : TI := { kd := .func, size := 1, bytes := 8, zero := [.nilFunc] }
theorem tiok62 : TIok Try.prog 62 ti62 := TIok.of (z := (.nilFunc)) (by kernel_rfl) rfl (fun h => by cases h) rfl ⟨_, _, _, Try.underlying62⟩ (by decide)
abbrev ti63 : TI := { kd := .func, size := 1, bytes := 8, zero := [.nilFunc] }
theorem tiok63 : TIok Try.prog 63 ti63 := TIok.of (z := (.nilFunc)) (by kernel_rfl) rfl (fun h => by cases h) rfl ⟨_, _, _, Try.underlying63⟩ (by decide)
abbrev ti64 : TI := { kd := .func, size := 1, bytes := 8, zero := [.nilFunc] }
theorem tiok64 : TIok Try.prog 64 ti64 := TIok.of (z := (.nilFunc)) (by kernel_rfl) rfl (fun h => by cases h) rfl ⟨_, _, _, Try.underlying64⟩ (by decide)
abbrev ti65 : TI := { kd := .func, size := 1, bytes := 8, zero := [.nilFunc] }
theorem tiok65 : TIok Try.prog 65 ti65 := TIok.of (z := (.nilFunc)) (by kernel_rfl) rfl (fun h => by cases h) rfl ⟨_, _, _, Try.underlying65⟩ (by decide)
abbrev ti66 : TI := { kd := .func, size := 1, bytes := 8, zero := [.nilFunc] }
theorem tiok66 : TIok Try.prog 66 ti66 := TIok.of (z := (.nilFunc)) (by kernel_rfl) rfl (fun h => by cases h) rfl ⟨_, _, _, Try.underlying66⟩ (by decide)
abbrev ti67 : TI := { kd := .struct [(0, 39), (1, 3), (2, 3)], size := 3, bytes := 40, zero := [.slice none 0 0, .int .i64 0, .int .i64 0] }
theorem tiok67 : TIok Try.prog 67 ti67 := TIok.of (z := (.agg #[.slice none 0 0, .int .i64 0, .int .i64 0])) (by kernel_rfl) rfl (fun _ => rfl) rfl ⟨_, Try.underlying67, rfl⟩ (by decide)
abbrev ti68 : TI := { kd := .struct [(0, 39), (1, 3), (2, 3)], size := 3, bytes := 40, zero := [.slice none 0 0, .int .i64 0, .int .i64 0] }
theorem tiok68 : TIok Try.prog 68 ti68 := TIok.of (z := (.agg #[.slice none 0 0, .int .i64 0, .int .i64 0])) (by kernel_rfl) rfl (fun _ => rfl) rfl ⟨_, Try.underlying68, rfl⟩ (by decide)
abbrev ti69 : TI := { kd := .func, size := 1, bytes := 8, zero := [.nilFunc] }
theorem tiok69 : TIok Try.prog 69 ti69 := TIok.of (z := (.nilFunc)) (by kernel_rfl) rfl (fun h => by cases h) rfl ⟨_, _, _, Try.underlying69⟩ (by decide)
abbrev ti70 : TI := { kd := .func, size := 1, bytes := 8, zero := [.nilFunc] }
theorem tiok70 : TIok Try.prog 70 ti70 := TIok.of (z := (.nilFunc)) (by kernel_rfl) rfl (fun h => by cases h) rfl ⟨_, _, _, Try.underlying70⟩ (by decide)
abbrev ti71 : TI := { kd := .struct [(0, 3), (1, 3)], size := 2, bytes := 16, zero := [.int .i64 0, .int .i64 0] }
theorem tiok71 : TIok Try.prog 71 ti71 := TIok.of (z := (.agg #[.int .i64 0, .int .i64 0])) (by kernel_rfl) rfl (fun _ => rfl) rfl ⟨_, Try.underlying71, rfl⟩ (by decide)
abbrev ti73 : TI := { kd := .func, size := 1, bytes := 8, zero := [.nilFunc] }
theorem tiok73 : TIok Try.prog 73 ti73 := TIok.of (z := (.nilFunc)) (by kernel_rfl) rfl (fun h => by cases h) rfl ⟨_, _, _, Try.underlying73⟩ (by decide)
abbrev ti74 : TI := { kd := .func, size := 1, bytes := 8, zero := [.nilFunc] }
theorem tiok74 : TIok Try.prog 74 ti74 := TIok.of (z := (.nilFunc)) (by kernel_rfl) rfl (fun h => by cases h) rfl ⟨_, _, _, Try.underlying74⟩ (by decide)
abbrev ti75 : TI := { kd := .func, size := 1, bytes := 8, zero := [.nilFunc] }
theorem tiok75 : TIok Try.prog 75 ti75 := TIok.of (z := (.nilFunc)) (by kernel_rfl) rfl (fun h => by cases h) rfl ⟨_, _, _, Try.underlying75⟩ (by decide)
abbrev ti76 : TI := { kd := .func, size := 1, bytes := 8, zero := [.nilFunc] }
theorem tiok76 : TIok Try.prog 76 ti76 := TIok.of (z := (.nilFunc)) (by kernel_rfl) rfl (fun h => by cases h) rfl ⟨_, _, _, Try.underlying76⟩ (by decide)
abbrev ti77 : TI := { kd := .slice 71, size := 1, bytes := 24, zero := [.slice none 0 0] }
theorem tiok77 : TIok Try.prog 77 ti77 := TIok.of (z := (.slice none 0 0)) (by kernel_rfl) rfl (fun h => by cases h) rfl Try.underlying77 (by decide)
abbrev ti79 : TI := { kd := .func, size := 1, bytes := 8, zero := [.nilFunc] }
theorem tiok79 : TIok Try.prog 79 ti79 := TIok.of (z := (.nilFunc)) (by kernel_rfl) rfl (fun h => by cases h) rfl ⟨_, _, _, Try.underlying79⟩ (by decide)
abbrev ti80 : TI := { kd := .func, size := 1, bytes := 8, zero := [.nilFunc] }
theorem tiok80 : TIok Try.prog 80 ti80 := TIok.of (z := (.nilFunc)) (by kernel_rfl) rfl (fun h => by cases h) rfl ⟨_, _, _, Try.underlying80⟩ (by decide)
abbrev ti81 : TI := { kd := .func, size := 1, bytes := 8, zero := [.nilFunc] }
theorem tiok81 : TIok Try.prog 81 ti81 := TIok.of (z := (.nilFunc)) (by kernel_rfl) rfl (fun h => by cases h) rfl ⟨_, _, _, Try.underlying81⟩ (by decide)
abbrev ti82 : TI := { kd := .func, size := 1, bytes := 8, zero := [.nilFunc] }
theorem tiok82 : TIok Try.prog 82 ti82 := TIok.of (z := (.nilFunc)) (by kernel_rfl) rfl (fun h => by cases h) rfl ⟨_, _, _, Try.underlying82⟩ (by decide)
abbrev ti83 : TI := { kd := .func, size := 1, bytes := 8, zero := [.nilFunc] }
theorem tiok83 : TIok Try.prog 83 ti83 := TIok.of (z := (.nilFunc)) (by kernel_rfl) rfl (fun h => by cases h) rfl ⟨_, _, _, Try.underlying83⟩ (by decide)
abbrev ti84 : TI := { kd := .func, size := 1, bytes := 8, zero := [.nilFunc] }
theorem tiok84 : TIok Try.prog 84 ti84 := TIok.of (z := (.nilFunc)) (by kernel_rfl) rfl (fun h => by cases h) rfl ⟨_, _, _, Try.underlying84⟩ (by decide)
abbrev ti85 : TI := { kd := .func, size := 1, bytes := 8, zero := [.nilFunc] }
theorem tiok85 : TIok Try.prog 85 ti85 := TIok.of (z := (.nilFunc)) (by kernel_rfl) rfl (fun h => by cases h) rfl ⟨_, _, _, Try.underlying85⟩ (by decide)
abbrev ti91 : TI := { kd := .int .u32, size := 1, bytes := 4, zero := [.int .u32 0] }
theorem tiok91 : TIok Try.prog 91 ti91 := TIok.of (z := (.int .u32 0)) (by kernel_rfl) rfl (fun h => by cases h) rfl Try.underlying91 (by decide)
abbrev ti92 : TI := { kd := .int .u8, size := 1, bytes := 1, zero := [.int .u8 0] }
theorem tiok92 : TIok Try.prog 92 ti92 := TIok.of (z := (.int .u8 0)) (by kernel_rfl) rfl (fun h => by cases h) rfl Try.underlying92 (by decide)
abbrev ti93 : TI := { kd := .int .u8, size := 1, bytes := 1, zero := [.int .u8 0] }
theorem tiok93 : TIok Try.prog 93 ti93 := TIok.of (z := (.int .u8 0)) (by kernel_rfl) rfl (fun h => by cases h) rfl Try.underlying93 (by decide)
abbrev ti94 : TI := { kd := .func, size := 1, bytes := 8, zero := [.nilFunc] }
theorem tiok94 : TIok Try.prog 94 ti94 := TIok.of (z := (.nilFunc)) (by kernel_rfl) rfl (fun h => by cases h) rfl ⟨_, _, _, Try.underlying94⟩ (by decide)
abbrev ti95 : TI := { kd := .ptr 5, size := 1, bytes := 8, zero := [.pointer none] }
theorem tiok95 : TIok Try.prog 95 ti95 := TIok.of (z := (.pointer none)) (by kernel_rfl) rfl (fun h => by cases h) rfl Try.underlying95 (by decide)
abbrev ti96 : TI := { kd := .int .i32, size := 1, bytes := 4, zero := [.int .i32 0] }
theorem tiok96 : TIok Try.prog 96 ti96 := TIok.of (z := (.int .i32 0)) (by kernel_rfl) rfl (fun h => by cases h) rfl Try.underlying96 (by decide)
abbrev ti97 : TI := { kd := .int .i32, size := 1, bytes := 4, zero := [.int .i32 0] }
theorem tiok97 : TIok Try.prog 97 ti97 := TIok.of (z := (.int .i32 0)) (by kernel_rfl) rfl (fun h => by cases h) rfl Try.underlying97 (by decide)
def tabL : List (Nat × TI) := [(1, ti1), (2, ti2), (3, ti3), (4, ti4), (5, ti5), (6, ti6), (7, ti7), (8, ti8), (9, ti9), (10, ti10), (11, ti11), (12, ti12), (13, ti13), (14, ti14), (15, ti15), (16, ti16), (17, ti17), (18, ti18), (19, ti19), (21, ti21), (22, ti22), (23, ti23), (24, ti24), (25, ti25), (26, ti26), (27, ti27), (28, ti28), (29, ti29), (30, ti30), (31, ti31), (32, ti32), (33, ti33), (35, ti35), (36, ti36), (37, ti37), (38, ti38), (39, ti39), (40, ti40), (41, ti41), (42, ti42), (43, ti43), (44, ti44), (46, ti46), (47, ti47), (48, ti48), (49, ti49), (50, ti50), (51, ti51), (52, ti52), (53, ti53), (54, ti54), (55, ti55), (56, ti56), (57, ti57), (59, ti59), (61, ti61), (62, ti62), (63, ti63), (64, ti64), (65, ti65), (66, ti66), (67, ti67), (68, ti68), (69, ti69), (70, ti70), (71, ti71), (73, ti73), (74, ti74), (75, ti75), (76, ti76), (77, ti77), (79, ti79), (80, ti80), (81, ti81), (82, ti82), (83, ti83), (84, ti84), (85, ti85), (91, ti91), (92, ti92), (93, ti93), (94, ti94), (95, ti95), (96, ti96), (97, ti97)]
def tab : Tab := look tabL
theorem tab_1 : tab 1 = some ti1 := by rfl
theorem tab_2 : tab 2 = some ti2 := by rfl
theorem tab_3 : tab 3 = some ti3 := by rfl
theorem tab_4 : tab 4 = some ti4 := by rfl
theorem tab_5 : tab 5 = some ti5 := by rfl
theorem tab_6 : tab 6 = some ti6 := by rfl
theorem tab_7 : tab 7 = some ti7 := by rfl
theorem tab_8 : tab 8 = some ti8 := by rfl
theorem tab_9 : tab 9 = some ti9 := by rfl
theorem tab_10 : tab 10 = some ti10 := by rfl
theorem tab_11 : tab 11 = some ti11 := by rfl
theorem tab_12 : tab 12 = some ti12 := by rfl
theorem tab_13 : tab 13 = some ti13 := by rfl
theorem tab_14 : tab 14 = some ti14 := by rfl
theorem tab_15 : tab 15 = some ti15 := by rfl
theorem tab_16 : tab 16 = some ti16 := by rfl
theorem tab_17 : tab 17 = some ti17 := by rfl
theorem tab_18 : tab 18 = some ti18 := by rfl
theorem tab_19 : tab 19 = some ti19 := by rfl
theorem tab_21 : tab 21 = some ti21 := by rfl
theorem tab_22 : tab 22 = some ti22 := by rfl
theorem tab_23 : tab 23 = some ti23 := by rfl
theorem tab_24 : tab 24 = some ti24 := by rfl
theorem tab_25 : tab 25 = some ti25 := by rfl
theorem tab_26 : tab 26 = some ti26 := by rfl
theorem tab_27 : tab 27 = some ti27 := by rfl
theorem tab_28 : tab 28 = some ti28 := by rfl
theorem tab_29 : tab 29 = some ti29 := by rfl
theorem tab_30 : tab 30 = some ti30 := by rfl
theorem tab_31 : tab 31 = some ti31 := by rfl
theorem tab_32 : tab 32 = some ti32 := by rfl
theorem tab_33 : tab 33 = some ti33 := by rfl
theorem tab_35 : tab 35 = some ti35 := by rfl
theorem tab_36 : tab 36 = some ti36 := by rfl
theorem tab_37 : tab 37 = some ti37 := by rfl
theorem tab_38 : tab 38 = some ti38 := by rfl
theorem tab_39 : tab 39 = some ti39 := by rfl
theorem tab_40 : tab 40 = some ti40 := by rfl
theorem tab_41 : tab 41 = some ti41 := by rfl
theorem tab_42 : tab 42 = some ti42 := by rfl
theorem tab_43 : tab 43 = some ti43 := by rfl
theorem tab_44 : tab 44 = some ti44 := by rfl
theorem tab_46 : tab 46 = some ti46 := by rfl
theorem tab_47 : tab 47 = some ti47 := by rfl
theorem tab_48 : tab 48 = some ti48 := by rfl
theorem tab_49 : tab 49 = some ti49 := by rfl
theorem tab_50 : tab 50 = some ti50 := by rfl
theorem tab_51 : tab 51 = some ti51 := by rfl
theorem tab_52 : tab 52 = some ti52 := by rfl
theorem tab_53 : tab 53 = some ti53 := by rfl
theorem tab_54 : tab 54 = some ti54 := by rfl
theorem tab_55 : tab 55 = some ti55 := by rfl
theorem tab_56 : tab 56 = some ti56 := by rfl
theorem tab_57 : tab 57 = some ti57 := by rfl
theorem tab_59 : tab 59 = some ti59 := by rfl
theorem tab_61 : tab 61 = some ti61 := by rfl
theorem tab_62 : tab 62 = some ti62 := by rfl
theorem tab_63 : tab 63 = some ti63 := by rfl
theorem tab_64 : tab 64 = some ti64 := by rfl
theorem tab_65 : tab 65 = some ti65 := by rfl
theorem tab_66 : tab 66 = some ti66 := by rfl
theorem tab_67 : tab 67 = some ti67 := by rfl
theorem tab_68 : tab 68 = some ti68 := by rfl
theorem tab_69 : tab 69 = some ti69 := by rfl
theorem tab_70 : tab 70 = some ti70 := by rfl
theorem tab_71 : tab 71 = some ti71 := by rfl
theorem tab_73 : tab 73 = some ti73 := by rfl
theorem tab_74 : tab 74 = some ti74 := by rfl
theorem tab_75 : tab 75 = some ti75 := by rfl
theorem tab_76 : tab 76 = some ti76 := by rfl
theorem tab_77 : tab 77 = some ti77 := by rfl
theorem tab_79 : tab 79 = some ti79 := by rfl
theorem tab_80 : tab 80 = some ti80 := by rfl
theorem tab_81 : tab 81 = some ti81 := by rfl
theorem tab_82 : tab 82 = some ti82 := by rfl
theorem tab_83 : tab 83 = some ti83 := by rfl
theorem tab_84 : tab 84 = some ti84 := by rfl
theorem tab_85 : tab 85 = some ti85 := by rfl
theorem tab_91 : tab 91 = some ti91 := by rfl
theorem tab_92 : tab 92 = some ti92 := by rfl
theorem tab_93 : tab 93 = some ti93 := by rfl
theorem tab_94 : tab 94 = some ti94 := by rfl
theorem tab_95 : tab 95 = some ti95 := by rfl
theorem tab_96 : tab 96 = some ti96 := by rfl
theorem tab_97 : tab 97 = some ti97 := by rfl
theorem tabOk : TabOk Try.prog tab := TabOk.of (by
  simp only [AllTI, tabL]
  exact ⟨tiok1, tiok2, tiok3, tiok4, tiok5, tiok6, tiok7, tiok8, tiok9, tiok10, tiok11, tiok12, tiok13, tiok14, tiok15, tiok16, tiok17, tiok18, tiok19, tiok21, tiok22, tiok23, tiok24, tiok25, tiok26, tiok27, tiok28, tiok29, tiok30, tiok31, tiok32, tiok33, tiok35, tiok36, tiok37, tiok38, tiok39, tiok40, tiok41, tiok42, tiok43, tiok44, tiok46, tiok47, tiok48, tiok49, tiok50, tiok51, tiok52, tiok53, tiok54, tiok55, tiok56, tiok57, tiok59, tiok61, tiok62, tiok63, tiok64, tiok65, tiok66, tiok67, tiok68, tiok69, tiok70, tiok71, tiok73, tiok74, tiok75, tiok76, tiok77, tiok79, tiok80, tiok81, tiok82, tiok83, tiok84, tiok85, tiok91, tiok92, tiok93, tiok94, tiok95, tiok96, tiok97, trivial⟩)
theorem tab_one : ∀ e ie, tab e = some ie → ie.kd.agg = false → ie.size = 1 := one_of_list (by decide)
theorem seq_52 : SEq Try.prog 52 [(0, 3), (1, 3)] := ⟨_, Try.underlying52, rfl, by decide, by kernel_rfl, by kernel_rfl⟩
theorem seq_53 : SEq Try.prog 53 [(0, 3), (1, 3)] := ⟨_, Try.underlying53, rfl, by decide, by kernel_rfl, by kernel_rfl⟩
theorem seq_71 : SEq Try.prog 71 [(0, 3), (1, 3)] := ⟨_, Try.underlying71, rfl, by decide, by kernel_rfl, by kernel_rfl⟩
theorem mixed : Try.prog.follows .mixedOrders = true := by kernel_rfl
end Go.Proofs.Yteedhlgdbankiaa.Pv
