/- Part 4 of the ground of this proof: what its texts say of the model, the program and the plain data; conditions: those that are named. -/
import Derived.Test.YtmjllbjfkafhdaaGreatDoorProg
import Derived.KernelRfl
import Derived.Test.YtmjllbjfkafhdaaGreatDoorRows
import Derived.LaidMore
import Derived.OpenShut
import Derived.MakeChecks
import Derived.Handed
import Derived.Test.YtmjllbjfkafhdaaGreatDoorTie
import Derived.Test.YtmjllbjfkafhdaaGreatDoorCards
import Derived.Test.YtmjllbjfkafhdaaGreatDoorP03
namespace Go.Proofs.YtmjllbjfkafhdaaGreatDoor
open Go Go.CF
def ti3 : TI := ⟨.int .i64, 1, 8, .int .i64 0⟩ -- int
theorem tok3 : TOK Tryz.prog 3 ti3 := TOK.mk' (by kernel_rfl) (by kernel_rfl)
def ti4 : TI := ⟨.bool, 1, 1, .bool false⟩ -- bool
theorem tok4 : TOK Tryz.prog 4 ti4 := TOK.mk' (by kernel_rfl) (by kernel_rfl)
def ti5 : TI := ⟨.int .u8, 1, 1, .int .u8 0⟩ -- uint8
theorem tok5 : TOK Tryz.prog 5 ti5 := TOK.mk' (by kernel_rfl) (by kernel_rfl)
def ti9 : TI := ⟨.str, 1, 16, .string ⟨#[]⟩⟩ -- string
theorem tok9 : TOK Tryz.prog 9 ti9 := TOK.mk' (by kernel_rfl) (by kernel_rfl)
def ti21 : TI := ⟨.int .i32, 1, 4, .int .i32 0⟩ -- int32
theorem tok21 : TOK Tryz.prog 21 ti21 := TOK.mk' (by kernel_rfl) (by kernel_rfl)
def ti22 : TI := ⟨.slice 3, 1, 24, .slice none 0 0⟩ -- []int
theorem tok22 : TOK Tryz.prog 22 ti22 := TOK.mk' (by kernel_rfl) (by kernel_rfl)
def ti23 : TI := ⟨.slice 150, 1, 24, .slice none 0 0⟩ -- []api.Table
theorem tok23 : TOK Tryz.prog 23 ti23 := TOK.mk' (by kernel_rfl) (by kernel_rfl)
def ti24 : TI := ⟨.slice 9, 1, 24, .slice none 0 0⟩ -- []string
theorem tok24 : TOK Tryz.prog 24 ti24 := TOK.mk' (by kernel_rfl) (by kernel_rfl)
def ti25 : TI := ⟨.slice 172, 1, 24, .slice none 0 0⟩ -- []api.Constraint
theorem tok25 : TOK Tryz.prog 25 ti25 := TOK.mk' (by kernel_rfl) (by kernel_rfl)
def ti26 : TI := ⟨.slice 174, 1, 24, .slice none 0 0⟩ -- []api.Operation
theorem tok26 : TOK Tryz.prog 26 ti26 := TOK.mk' (by kernel_rfl) (by kernel_rfl)
def ti27 : TI := ⟨.slice 142, 1, 24, .slice none 0 0⟩ -- []api.Action
theorem tok27 : TOK Tryz.prog 27 ti27 := TOK.mk' (by kernel_rfl) (by kernel_rfl)
def ti28 : TI := ⟨.slice 192, 1, 24, .slice none 0 0⟩ -- []api.Hide
theorem tok28 : TOK Tryz.prog 28 ti28 := TOK.mk' (by kernel_rfl) (by kernel_rfl)
def ti30 : TI := ⟨.struct [(0, 22, 1), (1, 23, 1), (2, 24, 1), (3, 25, 1), (4, 26, 1), (5, 27, 1), (6, 28, 1)], 7, 168, .agg #[.slice none 0 0, .slice none 0 0, .slice none 0 0, .slice none 0 0, .slice none 0 0, .slice none 0 0, .slice none 0 0]⟩ -- api.Model
theorem tok30 : TOK Tryz.prog 30 ti30 := TOK.mk' (by kernel_rfl) (by kernel_rfl)
def ti31 : TI := ⟨.slice 66, 1, 24, .slice none 0 0⟩ -- []api.Event
theorem tok31 : TOK Tryz.prog 31 ti31 := TOK.mk' (by kernel_rfl) (by kernel_rfl)
def ti32 : TI := ⟨.slice 5, 1, 24, .slice none 0 0⟩ -- []uint8
theorem tok32 : TOK Tryz.prog 32 ti32 := TOK.mk' (by kernel_rfl) (by kernel_rfl)
def ti33 : TI := ⟨.slice 102, 1, 24, .slice none 0 0⟩ -- []api.Query
theorem tok33 : TOK Tryz.prog 33 ti33 := TOK.mk' (by kernel_rfl) (by kernel_rfl)
def ti38 : TI := ⟨.ptr 133, 1, 8, .pointer none⟩ -- *store.Store
theorem tok38 : TOK Tryz.prog 38 ti38 := TOK.mk' (by kernel_rfl) (by kernel_rfl)
def ti40 : TI := ⟨.int .i64, 1, 8, .int .i64 0⟩ -- api.Errno
theorem tok40 : TOK Tryz.prog 40 ti40 := TOK.mk' (by kernel_rfl) (by kernel_rfl)
def ti42 : TI := ⟨.slice 231, 1, 24, .slice none 0 0⟩ -- []api.Merged
theorem tok42 : TOK Tryz.prog 42 ti42 := TOK.mk' (by kernel_rfl) (by kernel_rfl)
def ti43 : TI := ⟨.slice 22, 1, 24, .slice none 0 0⟩ -- [][]int
theorem tok43 : TOK Tryz.prog 43 ti43 := TOK.mk' (by kernel_rfl) (by kernel_rfl)
def ti44 : TI := ⟨.slice 43, 1, 24, .slice none 0 0⟩ -- [][][]int
theorem tok44 : TOK Tryz.prog 44 ti44 := TOK.mk' (by kernel_rfl) (by kernel_rfl)
def ti46 : TI := ⟨.struct [(0, 22, 1), (1, 3, 1), (2, 22, 1), (3, 42, 1), (4, 43, 1), (5, 44, 1), (6, 22, 1)], 7, 152, .agg #[.slice none 0 0, .int .i64 0, .slice none 0 0, .slice none 0 0, .slice none 0 0, .slice none 0 0, .slice none 0 0]⟩ -- api.Base
theorem tok46 : TOK Tryz.prog 46 ti46 := TOK.mk' (by kernel_rfl) (by kernel_rfl)
def ti48 : TI := ⟨.struct [(0, 46, 7), (7, 31, 1), (8, 22, 1)], 9, 200, .agg #[.slice none 0 0, .int .i64 0, .slice none 0 0, .slice none 0 0, .slice none 0 0, .slice none 0 0, .slice none 0 0, .slice none 0 0, .slice none 0 0]⟩ -- confluentref53.View
theorem tok48 : TOK Tryz.prog 48 ti48 := TOK.mk' (by kernel_rfl) (by kernel_rfl)
def ti55 : TI := ⟨.func, 1, 8, .nilFunc⟩ -- func([]int, []int) bool
theorem tok55 : TOK Tryz.prog 55 ti55 := TOK.mk' (by kernel_rfl) (by kernel_rfl)
def ti62 : TI := ⟨.struct [(0, 3, 1), (1, 3, 1), (2, 3, 1)], 3, 24, .agg #[.int .i64 0, .int .i64 0, .int .i64 0]⟩ -- api.Right
theorem tok62 : TOK Tryz.prog 62 ti62 := TOK.mk' (by kernel_rfl) (by kernel_rfl)
def ti64 : TI := ⟨.struct [(0, 62, 3), (3, 3, 1)], 4, 32, .agg #[.int .i64 0, .int .i64 0, .int .i64 0, .int .i64 0]⟩ -- api.Need
theorem tok64 : TOK Tryz.prog 64 ti64 := TOK.mk' (by kernel_rfl) (by kernel_rfl)
def ti66 : TI := ⟨.struct [(0, 3, 1), (1, 3, 1), (2, 3, 1), (3, 22, 1), (4, 3, 1), (5, 3, 1), (6, 64, 4), (10, 3, 1), (11, 3, 1), (12, 3, 1)], 13, 120, .agg #[.int .i64 0, .int .i64 0, .int .i64 0, .slice none 0 0, .int .i64 0, .int .i64 0, .int .i64 0, .int .i64 0, .int .i64 0, .int .i64 0, .int .i64 0, .int .i64 0, .int .i64 0]⟩ -- api.Event
theorem tok66 : TOK Tryz.prog 66 ti66 := TOK.mk' (by kernel_rfl) (by kernel_rfl)
def ti70 : TI := ⟨.struct [(0, 3, 1), (1, 3, 1)], 2, 16, .agg #[.int .i64 0, .int .i64 0]⟩ -- api.Dot
theorem tok70 : TOK Tryz.prog 70 ti70 := TOK.mk' (by kernel_rfl) (by kernel_rfl)
def ti86 : TI := ⟨.slice 38, 1, 24, .slice none 0 0⟩ -- []*store.Store
theorem tok86 : TOK Tryz.prog 86 ti86 := TOK.mk' (by kernel_rfl) (by kernel_rfl)
def ti91 : TI := ⟨.func, 1, 8, .nilFunc⟩ -- func(*store.Store) bool
theorem tok91 : TOK Tryz.prog 91 ti91 := TOK.mk' (by kernel_rfl) (by kernel_rfl)
def ti102 : TI := ⟨.struct [(0, 3, 1), (1, 3, 1)], 2, 16, .agg #[.int .i64 0, .int .i64 0]⟩ -- api.Query
theorem tok102 : TOK Tryz.prog 102 ti102 := TOK.mk' (by kernel_rfl) (by kernel_rfl)
def ti104 : TI := ⟨.struct [(0, 22, 1), (1, 3, 1)], 2, 32, .agg #[.slice none 0 0, .int .i64 0]⟩ -- struct { at []int;want int }
theorem tok104 : TOK Tryz.prog 104 ti104 := TOK.mk' (by kernel_rfl) (by kernel_rfl)
def ti105 : TI := ⟨.slice 104, 1, 24, .slice none 0 0⟩ -- []struct { at []int;want int }
theorem tok105 : TOK Tryz.prog 105 ti105 := TOK.mk' (by kernel_rfl) (by kernel_rfl)
def ti107 : TI := ⟨.func, 1, 8, .nilFunc⟩ -- func(api.Event) bool
theorem tok107 : TOK Tryz.prog 107 ti107 := TOK.mk' (by kernel_rfl) (by kernel_rfl)
def ti110 : TI := ⟨.slice 148, 1, 24, .slice none 0 0⟩ -- []api.Range
theorem tok110 : TOK Tryz.prog 110 ti110 := TOK.mk' (by kernel_rfl) (by kernel_rfl)
def ti112 : TI := ⟨.map 3 3, 1, 8, .map none⟩ -- map[int]int
theorem tok112 : TOK Tryz.prog 112 ti112 := TOK.mk' (by kernel_rfl) (by kernel_rfl)
def ti114 : TI := ⟨.func, 1, 8, .nilFunc⟩ -- func(api.Query) bool
theorem tok114 : TOK Tryz.prog 114 ti114 := TOK.mk' (by kernel_rfl) (by kernel_rfl)
def ti119 : TI := ⟨.slice 4, 1, 24, .slice none 0 0⟩ -- []bool
theorem tok119 : TOK Tryz.prog 119 ti119 := TOK.mk' (by kernel_rfl) (by kernel_rfl)
def ti121 : TI := ⟨.struct [(0, 22, 1), (1, 119, 1), (2, 43, 1)], 3, 72, .agg #[.slice none 0 0, .slice none 0 0, .slice none 0 0]⟩ -- snapshot.snapshot
theorem tok121 : TOK Tryz.prog 121 ti121 := TOK.mk' (by kernel_rfl) (by kernel_rfl)
def ti131 : TI := ⟨.struct [(0, 22, 1), (1, 3, 1), (2, 22, 1), (3, 42, 1), (4, 22, 1)], 5, 104, .agg #[.slice none 0 0, .int .i64 0, .slice none 0 0, .slice none 0 0, .slice none 0 0]⟩ -- store.now
theorem tok131 : TOK Tryz.prog 131 ti131 := TOK.mk' (by kernel_rfl) (by kernel_rfl)
def ti133 : TI := ⟨.struct [(0, 30, 7), (7, 46, 7), (14, 31, 1), (15, 131, 5)], 20, 448, .agg #[.slice none 0 0, .slice none 0 0, .slice none 0 0, .slice none 0 0, .slice none 0 0, .slice none 0 0, .slice none 0 0, .slice none 0 0, .int .i64 0, .slice none 0 0, .slice none 0 0, .slice none 0 0, .slice none 0 0, .slice none 0 0, .slice none 0 0, .slice none 0 0, .int .i64 0, .slice none 0 0, .slice none 0 0, .slice none 0 0]⟩ -- store.Store
theorem tok133 : TOK Tryz.prog 133 ti133 := TOK.mk' (by kernel_rfl) (by kernel_rfl)
def ti136 : TI := ⟨.slice 144, 1, 24, .slice none 0 0⟩ -- []api.Change
theorem tok136 : TOK Tryz.prog 136 ti136 := TOK.mk' (by kernel_rfl) (by kernel_rfl)
def ti137 : TI := ⟨.slice 170, 1, 24, .slice none 0 0⟩ -- []api.Row
theorem tok137 : TOK Tryz.prog 137 ti137 := TOK.mk' (by kernel_rfl) (by kernel_rfl)
def ti138 : TI := ⟨.slice 206, 1, 24, .slice none 0 0⟩ -- []api.Update
theorem tok138 : TOK Tryz.prog 138 ti138 := TOK.mk' (by kernel_rfl) (by kernel_rfl)
def ti140 : TI := ⟨.struct [(0, 136, 1), (1, 137, 1), (2, 138, 1)], 3, 72, .agg #[.slice none 0 0, .slice none 0 0, .slice none 0 0]⟩ -- api.Effect
theorem tok140 : TOK Tryz.prog 140 ti140 := TOK.mk' (by kernel_rfl) (by kernel_rfl)
def ti142 : TI := ⟨.struct [(0, 3, 1), (1, 22, 1), (2, 140, 3)], 5, 104, .agg #[.int .i64 0, .slice none 0 0, .slice none 0 0, .slice none 0 0, .slice none 0 0]⟩ -- api.Action
theorem tok142 : TOK Tryz.prog 142 ti142 := TOK.mk' (by kernel_rfl) (by kernel_rfl)
def ti144 : TI := ⟨.struct [(0, 3, 1), (1, 3, 1)], 2, 16, .agg #[.int .i64 0, .int .i64 0]⟩ -- api.Change
theorem tok144 : TOK Tryz.prog 144 ti144 := TOK.mk' (by kernel_rfl) (by kernel_rfl)
def ti148 : TI := ⟨.struct [(0, 3, 1), (1, 3, 1)], 2, 16, .agg #[.int .i64 0, .int .i64 0]⟩ -- api.Range
theorem tok148 : TOK Tryz.prog 148 ti148 := TOK.mk' (by kernel_rfl) (by kernel_rfl)
def ti150 : TI := ⟨.struct [(0, 9, 1), (1, 3, 1), (2, 22, 1), (3, 148, 2), (5, 3, 1)], 6, 72, .agg #[.string ⟨#[]⟩, .int .i64 0, .slice none 0 0, .int .i64 0, .int .i64 0, .int .i64 0]⟩ -- api.Table
theorem tok150 : TOK Tryz.prog 150 ti150 := TOK.mk' (by kernel_rfl) (by kernel_rfl)
def ti151 : TI := ⟨.slice 208, 1, 24, .slice none 0 0⟩ -- []confluentref32.updated
theorem tok151 : TOK Tryz.prog 151 ti151 := TOK.mk' (by kernel_rfl) (by kernel_rfl)
def ti155 : TI := ⟨.func, 1, 8, .nilFunc⟩ -- func(int) []int
theorem tok155 : TOK Tryz.prog 155 ti155 := TOK.mk' (by kernel_rfl) (by kernel_rfl)
def ti157 : TI := ⟨.slice 216, 1, 24, .slice none 0 0⟩ -- []api.Span
theorem tok157 : TOK Tryz.prog 157 ti157 := TOK.mk' (by kernel_rfl) (by kernel_rfl)
def ti161 : TI := ⟨.struct [(0, 38, 1), (1, 66, 13), (14, 131, 5)], 19, 232, .agg #[.pointer none, .int .i64 0, .int .i64 0, .int .i64 0, .slice none 0 0, .int .i64 0, .int .i64 0, .int .i64 0, .int .i64 0, .int .i64 0, .int .i64 0, .int .i64 0, .int .i64 0, .int .i64 0, .slice none 0 0, .int .i64 0, .slice none 0 0, .slice none 0 0, .slice none 0 0]⟩ -- store.step
theorem tok161 : TOK Tryz.prog 161 ti161 := TOK.mk' (by kernel_rfl) (by kernel_rfl)
def ti162 : TI := ⟨.func, 1, 8, .nilFunc⟩ -- func() api.Errno
theorem tok162 : TOK Tryz.prog 162 ti162 := TOK.mk' (by kernel_rfl) (by kernel_rfl)
def ti163 : TI := ⟨.slice 162, 1, 24, .slice none 0 0⟩ -- []func() api.Errno
theorem tok163 : TOK Tryz.prog 163 ti163 := TOK.mk' (by kernel_rfl) (by kernel_rfl)
def ti167 : TI := ⟨.struct [(0, 3, 1), (1, 3, 1)], 2, 16, .agg #[.int .i64 0, .int .i64 0]⟩ -- api.Term
theorem tok167 : TOK Tryz.prog 167 ti167 := TOK.mk' (by kernel_rfl) (by kernel_rfl)
def ti168 : TI := ⟨.slice 167, 1, 24, .slice none 0 0⟩ -- []api.Term
theorem tok168 : TOK Tryz.prog 168 ti168 := TOK.mk' (by kernel_rfl) (by kernel_rfl)
def ti170 : TI := ⟨.struct [(0, 168, 1), (1, 3, 1)], 2, 32, .agg #[.slice none 0 0, .int .i64 0]⟩ -- api.Row
theorem tok170 : TOK Tryz.prog 170 ti170 := TOK.mk' (by kernel_rfl) (by kernel_rfl)
def ti172 : TI := ⟨.struct [(0, 3, 1), (1, 3, 1), (2, 170, 2), (4, 3, 1), (5, 3, 1)], 6, 64, .agg #[.int .i64 0, .int .i64 0, .slice none 0 0, .int .i64 0, .int .i64 0, .int .i64 0]⟩ -- api.Constraint
theorem tok172 : TOK Tryz.prog 172 ti172 := TOK.mk' (by kernel_rfl) (by kernel_rfl)
def ti174 : TI := ⟨.struct [(0, 9, 1), (1, 4, 1), (2, 22, 1)], 3, 48, .agg #[.string ⟨#[]⟩, .bool false, .slice none 0 0]⟩ -- api.Operation
theorem tok174 : TOK Tryz.prog 174 ti174 := TOK.mk' (by kernel_rfl) (by kernel_rfl)
def ti184 : TI := ⟨.func, 1, 8, .nilFunc⟩ -- func(int) bool
theorem tok184 : TOK Tryz.prog 184 ti184 := TOK.mk' (by kernel_rfl) (by kernel_rfl)
def ti192 : TI := ⟨.struct [(0, 3, 1), (1, 3, 1), (2, 3, 1)], 3, 24, .agg #[.int .i64 0, .int .i64 0, .int .i64 0]⟩ -- api.Hide
theorem tok192 : TOK Tryz.prog 192 ti192 := TOK.mk' (by kernel_rfl) (by kernel_rfl)
def ti196 : TI := ⟨.struct [(0, 30, 7), (7, 110, 1)], 8, 192, .agg #[.slice none 0 0, .slice none 0 0, .slice none 0 0, .slice none 0 0, .slice none 0 0, .slice none 0 0, .slice none 0 0, .slice none 0 0]⟩ -- model.judge
theorem tok196 : TOK Tryz.prog 196 ti196 := TOK.mk' (by kernel_rfl) (by kernel_rfl)
def ti203 : TI := ⟨.slice 155, 1, 24, .slice none 0 0⟩ -- []func(int) []int
theorem tok203 : TOK Tryz.prog 203 ti203 := TOK.mk' (by kernel_rfl) (by kernel_rfl)
def ti206 : TI := ⟨.struct [(0, 3, 1), (1, 3, 1), (2, 3, 1)], 3, 24, .agg #[.int .i64 0, .int .i64 0, .int .i64 0]⟩ -- api.Update
theorem tok206 : TOK Tryz.prog 206 ti206 := TOK.mk' (by kernel_rfl) (by kernel_rfl)
def ti208 : TI := ⟨.struct [(0, 66, 13), (13, 206, 3)], 16, 144, .agg #[.int .i64 0, .int .i64 0, .int .i64 0, .slice none 0 0, .int .i64 0, .int .i64 0, .int .i64 0, .int .i64 0, .int .i64 0, .int .i64 0, .int .i64 0, .int .i64 0, .int .i64 0, .int .i64 0, .int .i64 0, .int .i64 0]⟩ -- confluentref32.updated
theorem tok208 : TOK Tryz.prog 208 ti208 := TOK.mk' (by kernel_rfl) (by kernel_rfl)
def ti216 : TI := ⟨.struct [(0, 3, 1), (1, 3, 1), (2, 3, 1)], 3, 24, .agg #[.int .i64 0, .int .i64 0, .int .i64 0]⟩ -- api.Span
theorem tok216 : TOK Tryz.prog 216 ti216 := TOK.mk' (by kernel_rfl) (by kernel_rfl)
def ti218 : TI := ⟨.func, 1, 8, .nilFunc⟩ -- func(int, int) int
theorem tok218 : TOK Tryz.prog 218 ti218 := TOK.mk' (by kernel_rfl) (by kernel_rfl)
def ti220 : TI := ⟨.map 227 224, 1, 8, .map none⟩ -- map[merge.rule]func(merge.change) api.Errno
theorem tok220 : TOK Tryz.prog 220 ti220 := TOK.mk' (by kernel_rfl) (by kernel_rfl)
def ti222 : TI := ⟨.map 3 206, 1, 8, .map none⟩ -- map[int]api.Update
theorem tok222 : TOK Tryz.prog 222 ti222 := TOK.mk' (by kernel_rfl) (by kernel_rfl)
def ti224 : TI := ⟨.func, 1, 8, .nilFunc⟩ -- func(merge.change) api.Errno
theorem tok224 : TOK Tryz.prog 224 ti224 := TOK.mk' (by kernel_rfl) (by kernel_rfl)
def ti227 : TI := ⟨.struct [(0, 3, 1), (1, 3, 1)], 2, 16, .agg #[.int .i64 0, .int .i64 0]⟩ -- merge.rule
theorem tok227 : TOK Tryz.prog 227 ti227 := TOK.mk' (by kernel_rfl) (by kernel_rfl)
def ti228 : TI := ⟨.ptr 231, 1, 8, .pointer none⟩ -- *api.Merged
theorem tok228 : TOK Tryz.prog 228 ti228 := TOK.mk' (by kernel_rfl) (by kernel_rfl)
def ti229 : TI := ⟨.slice 233, 1, 24, .slice none 0 0⟩ -- []api.Mark
theorem tok229 : TOK Tryz.prog 229 ti229 := TOK.mk' (by kernel_rfl) (by kernel_rfl)
def ti231 : TI := ⟨.struct [(0, 4, 1), (1, 4, 1), (2, 229, 1)], 3, 32, .agg #[.bool false, .bool false, .slice none 0 0]⟩ -- api.Merged
theorem tok231 : TOK Tryz.prog 231 ti231 := TOK.mk' (by kernel_rfl) (by kernel_rfl)
def ti233 : TI := ⟨.struct [(0, 3, 1), (1, 3, 1), (2, 3, 1), (3, 3, 1)], 4, 32, .agg #[.int .i64 0, .int .i64 0, .int .i64 0, .int .i64 0]⟩ -- api.Mark
theorem tok233 : TOK Tryz.prog 233 ti233 := TOK.mk' (by kernel_rfl) (by kernel_rfl)
def ti235 : TI := ⟨.struct [(0, 228, 1), (1, 66, 13), (14, 233, 4)], 18, 160, .agg #[.pointer none, .int .i64 0, .int .i64 0, .int .i64 0, .slice none 0 0, .int .i64 0, .int .i64 0, .int .i64 0, .int .i64 0, .int .i64 0, .int .i64 0, .int .i64 0, .int .i64 0, .int .i64 0, .int .i64 0, .int .i64 0, .int .i64 0, .int .i64 0]⟩ -- merge.change
theorem tok235 : TOK Tryz.prog 235 ti235 := TOK.mk' (by kernel_rfl) (by kernel_rfl)
def ti236 : TI := ⟨.func, 1, 8, .nilFunc⟩ -- func(api.Table) bool
theorem tok236 : TOK Tryz.prog 236 ti236 := TOK.mk' (by kernel_rfl) (by kernel_rfl)
def ti246 : TI := ⟨.map 9 4, 1, 8, .map none⟩ -- map[string]bool
theorem tok246 : TOK Tryz.prog 246 ti246 := TOK.mk' (by kernel_rfl) (by kernel_rfl)
def ti248 : TI := ⟨.ptr 3, 1, 8, .pointer none⟩ -- *int
theorem tok248 : TOK Tryz.prog 248 ti248 := TOK.mk' (by kernel_rfl) (by kernel_rfl)
def ti250 : TI := ⟨.func, 1, 8, .nilFunc⟩ -- func(api.Row) bool
theorem tok250 : TOK Tryz.prog 250 ti250 := TOK.mk' (by kernel_rfl) (by kernel_rfl)
def ti254 : TI := ⟨.map 3 4, 1, 8, .map none⟩ -- map[int]bool
theorem tok254 : TOK Tryz.prog 254 ti254 := TOK.mk' (by kernel_rfl) (by kernel_rfl)
def ti256 : TI := ⟨.func, 1, 8, .nilFunc⟩ -- func(api.Hide) bool
theorem tok256 : TOK Tryz.prog 256 ti256 := TOK.mk' (by kernel_rfl) (by kernel_rfl)
def ti265 : TI := ⟨.func, 1, 8, .nilFunc⟩ -- func(api.Table, api.Merged) bool
theorem tok265 : TOK Tryz.prog 265 ti265 := TOK.mk' (by kernel_rfl) (by kernel_rfl)
def ti266 : TI := ⟨.int .u64, 1, 8, .int .u64 0⟩ -- uint
theorem tok266 : TOK Tryz.prog 266 ti266 := TOK.mk' (by kernel_rfl) (by kernel_rfl)
def ti268 : TI := ⟨.slice 272, 1, 24, .slice none 0 0⟩ -- []api.Token
theorem tok268 : TOK Tryz.prog 268 ti268 := TOK.mk' (by kernel_rfl) (by kernel_rfl)
def ti272 : TI := ⟨.struct [(0, 3, 1), (1, 3, 1), (2, 3, 1), (3, 3, 1)], 4, 32, .agg #[.int .i64 0, .int .i64 0, .int .i64 0, .int .i64 0]⟩ -- api.Token
theorem tok272 : TOK Tryz.prog 272 ti272 := TOK.mk' (by kernel_rfl) (by kernel_rfl)
def ti290 : TI := ⟨.func, 1, 8, .nilFunc⟩ -- func(*api.Event) bool
theorem tok290 : TOK Tryz.prog 290 ti290 := TOK.mk' (by kernel_rfl) (by kernel_rfl)
def ti292 : TI := ⟨.map 3 290, 1, 8, .map none⟩ -- map[int]func(*api.Event) bool
theorem tok292 : TOK Tryz.prog 292 ti292 := TOK.mk' (by kernel_rfl) (by kernel_rfl)
def ti294 : TI := ⟨.ptr 66, 1, 8, .pointer none⟩ -- *api.Event
theorem tok294 : TOK Tryz.prog 294 ti294 := TOK.mk' (by kernel_rfl) (by kernel_rfl)
def ti295 : TI := ⟨.map 70 4, 1, 8, .map none⟩ -- map[api.Dot]bool
theorem tok295 : TOK Tryz.prog 295 ti295 := TOK.mk' (by kernel_rfl) (by kernel_rfl)
def ti298 : TI := ⟨.func, 1, 8, .nilFunc⟩ -- func(api.Mark, api.Mark) int
theorem tok298 : TOK Tryz.prog 298 ti298 := TOK.mk' (by kernel_rfl) (by kernel_rfl)
def ti300 : TI := ⟨.func, 1, 8, .nilFunc⟩ -- func(api.Mark) bool
theorem tok300 : TOK Tryz.prog 300 ti300 := TOK.mk' (by kernel_rfl) (by kernel_rfl)
def ti310 : TI := ⟨.int .u32, 1, 4, .int .u32 0⟩ -- uint32
theorem tok310 : TOK Tryz.prog 310 ti310 := TOK.mk' (by kernel_rfl) (by kernel_rfl)
def ti313 : TI := ⟨.int .u64, 1, 8, .int .u64 0⟩ -- uint64
theorem tok313 : TOK Tryz.prog 313 ti313 := TOK.mk' (by kernel_rfl) (by kernel_rfl)
def ti324 : TI := ⟨.func, 1, 8, .nilFunc⟩ -- func(uint8) bool
theorem tok324 : TOK Tryz.prog 324 ti324 := TOK.mk' (by kernel_rfl) (by kernel_rfl)
def ti330 : TI := ⟨.int .i64, 1, 8, .int .i64 0⟩ -- slices.sortedHint
theorem tok330 : TOK Tryz.prog 330 ti330 := TOK.mk' (by kernel_rfl) (by kernel_rfl)
def ti341 : TI := ⟨.int .u64, 1, 8, .int .u64 0⟩ -- slices.xorshift
theorem tok341 : TOK Tryz.prog 341 ti341 := TOK.mk' (by kernel_rfl) (by kernel_rfl)
def ti347 : TI := ⟨.array 256 5, 256, 256, .agg #[.int .u8 0, .int .u8 0, .int .u8 0, .int .u8 0, .int .u8 0, .int .u8 0, .int .u8 0, .int .u8 0, .int .u8 0, .int .u8 0, .int .u8 0, .int .u8 0, .int .u8 0, .int .u8 0, .int .u8 0, .int .u8 0, .int .u8 0, .int .u8 0, .int .u8 0, .int .u8 0, .int .u8 0, .int .u8 0, .int .u8 0, .int .u8 0, .int .u8 0, .int .u8 0, .int .u8 0, .int .u8 0, .int .u8 0, .int .u8 0, .int .u8 0, .int .u8 0, .int .u8 0, .int .u8 0, .int .u8 0, .int .u8 0, .int .u8 0, .int .u8 0, .int .u8 0, .int .u8 0, .int .u8 0, .int .u8 0, .int .u8 0, .int .u8 0, .int .u8 0, .int .u8 0, .int .u8 0, .int .u8 0, .int .u8 0, .int .u8 0, .int .u8 0, .int .u8 0, .int .u8 0, .int .u8 0, .int .u8 0, .int .u8 0, .int .u8 0, .int .u8 0, .int .u8 0, .int .u8 0, .int .u8 0, .int .u8 0, .int .u8 0, .int .u8 0, .int .u8 0, .int .u8 0, .int .u8 0, .int .u8 0, .int .u8 0, .int .u8 0, .int .u8 0, .int .u8 0, .int .u8 0, .int .u8 0, .int .u8 0, .int .u8 0, .int .u8 0, .int .u8 0, .int .u8 0, .int .u8 0, .int .u8 0, .int .u8 0, .int .u8 0, .int .u8 0, .int .u8 0, .int .u8 0, .int .u8 0, .int .u8 0, .int .u8 0, .int .u8 0, .int .u8 0, .int .u8 0, .int .u8 0, .int .u8 0, .int .u8 0, .int .u8 0, .int .u8 0, .int .u8 0, .int .u8 0, .int .u8 0, .int .u8 0, .int .u8 0, .int .u8 0, .int .u8 0, .int .u8 0, .int .u8 0, .int .u8 0, .int .u8 0, .int .u8 0, .int .u8 0, .int .u8 0, .int .u8 0, .int .u8 0, .int .u8 0, .int .u8 0, .int .u8 0, .int .u8 0, .int .u8 0, .int .u8 0, .int .u8 0, .int .u8 0, .int .u8 0, .int .u8 0, .int .u8 0, .int .u8 0, .int .u8 0, .int .u8 0, .int .u8 0, .int .u8 0, .int .u8 0, .int .u8 0, .int .u8 0, .int .u8 0, .int .u8 0, .int .u8 0, .int .u8 0, .int .u8 0, .int .u8 0, .int .u8 0, .int .u8 0, .int .u8 0, .int .u8 0, .int .u8 0, .int .u8 0, .int .u8 0, .int .u8 0, .int .u8 0, .int .u8 0, .int .u8 0, .int .u8 0, .int .u8 0, .int .u8 0, .int .u8 0, .int .u8 0, .int .u8 0, .int .u8 0, .int .u8 0, .int .u8 0, .int .u8 0, .int .u8 0, .int .u8 0, .int .u8 0, .int .u8 0, .int .u8 0, .int .u8 0, .int .u8 0, .int .u8 0, .int .u8 0, .int .u8 0, .int .u8 0, .int .u8 0, .int .u8 0, .int .u8 0, .int .u8 0, .int .u8 0, .int .u8 0, .int .u8 0, .int .u8 0, .int .u8 0, .int .u8 0, .int .u8 0, .int .u8 0, .int .u8 0, .int .u8 0, .int .u8 0, .int .u8 0, .int .u8 0, .int .u8 0, .int .u8 0, .int .u8 0, .int .u8 0, .int .u8 0, .int .u8 0, .int .u8 0, .int .u8 0, .int .u8 0, .int .u8 0, .int .u8 0, .int .u8 0, .int .u8 0, .int .u8 0, .int .u8 0, .int .u8 0, .int .u8 0, .int .u8 0, .int .u8 0, .int .u8 0, .int .u8 0, .int .u8 0, .int .u8 0, .int .u8 0, .int .u8 0, .int .u8 0, .int .u8 0, .int .u8 0, .int .u8 0, .int .u8 0, .int .u8 0, .int .u8 0, .int .u8 0, .int .u8 0, .int .u8 0, .int .u8 0, .int .u8 0, .int .u8 0, .int .u8 0, .int .u8 0, .int .u8 0, .int .u8 0, .int .u8 0, .int .u8 0, .int .u8 0, .int .u8 0, .int .u8 0, .int .u8 0, .int .u8 0, .int .u8 0, .int .u8 0, .int .u8 0, .int .u8 0, .int .u8 0, .int .u8 0, .int .u8 0, .int .u8 0, .int .u8 0, .int .u8 0, .int .u8 0, .int .u8 0, .int .u8 0, .int .u8 0, .int .u8 0, .int .u8 0, .int .u8 0, .int .u8 0, .int .u8 0, .int .u8 0]⟩ -- [256]uint8
theorem tok347 : TOK Tryz.prog 347 ti347 := TOK.mk' (by kernel_rfl) (by kernel_rfl)
def ti349 : TI := ⟨.func, 1, 8, .nilFunc⟩ -- func(int32) bool
theorem tok349 : TOK Tryz.prog 349 ti349 := TOK.mk' (by kernel_rfl) (by kernel_rfl)
def ti352 : TI := ⟨.slice 354, 1, 24, .slice none 0 0⟩ -- []strings.span
theorem tok352 : TOK Tryz.prog 352 ti352 := TOK.mk' (by kernel_rfl) (by kernel_rfl)
def ti354 : TI := ⟨.struct [(0, 3, 1), (1, 3, 1)], 2, 16, .agg #[.int .i64 0, .int .i64 0]⟩ -- strings.span
theorem tok354 : TOK Tryz.prog 354 ti354 := TOK.mk' (by kernel_rfl) (by kernel_rfl)
def ti356 : TI := ⟨.ptr 360, 1, 8, .pointer none⟩ -- *unicode.RangeTable
theorem tok356 : TOK Tryz.prog 356 ti356 := TOK.mk' (by kernel_rfl) (by kernel_rfl)
def ti357 : TI := ⟨.slice 363, 1, 24, .slice none 0 0⟩ -- []unicode.Range16
theorem tok357 : TOK Tryz.prog 357 ti357 := TOK.mk' (by kernel_rfl) (by kernel_rfl)
def ti358 : TI := ⟨.slice 366, 1, 24, .slice none 0 0⟩ -- []unicode.Range32
theorem tok358 : TOK Tryz.prog 358 ti358 := TOK.mk' (by kernel_rfl) (by kernel_rfl)
def ti360 : TI := ⟨.struct [(0, 357, 1), (1, 358, 1), (2, 3, 1)], 3, 56, .agg #[.slice none 0 0, .slice none 0 0, .int .i64 0]⟩ -- unicode.RangeTable
theorem tok360 : TOK Tryz.prog 360 ti360 := TOK.mk' (by kernel_rfl) (by kernel_rfl)
def ti361 : TI := ⟨.int .u16, 1, 2, .int .u16 0⟩ -- uint16
theorem tok361 : TOK Tryz.prog 361 ti361 := TOK.mk' (by kernel_rfl) (by kernel_rfl)
def ti363 : TI := ⟨.struct [(0, 361, 1), (1, 361, 1), (2, 361, 1)], 3, 6, .agg #[.int .u16 0, .int .u16 0, .int .u16 0]⟩ -- unicode.Range16
theorem tok363 : TOK Tryz.prog 363 ti363 := TOK.mk' (by kernel_rfl) (by kernel_rfl)
def ti366 : TI := ⟨.struct [(0, 310, 1), (1, 310, 1), (2, 310, 1)], 3, 12, .agg #[.int .u32 0, .int .u32 0, .int .u32 0]⟩ -- unicode.Range32
theorem tok366 : TOK Tryz.prog 366 ti366 := TOK.mk' (by kernel_rfl) (by kernel_rfl)
def tyTab : List (Nat × TI) := [(3, ti3), (4, ti4), (5, ti5), (9, ti9), (21, ti21), (22, ti22), (23, ti23), (24, ti24), (25, ti25), (26, ti26), (27, ti27), (28, ti28), (30, ti30), (31, ti31), (32, ti32), (33, ti33), (38, ti38), (40, ti40), (42, ti42), (43, ti43), (44, ti44), (46, ti46), (48, ti48), (55, ti55), (62, ti62), (64, ti64), (66, ti66), (70, ti70), (86, ti86), (91, ti91), (102, ti102), (104, ti104), (105, ti105), (107, ti107), (110, ti110), (112, ti112), (114, ti114), (119, ti119), (121, ti121), (131, ti131), (133, ti133), (136, ti136), (137, ti137), (138, ti138), (140, ti140), (142, ti142), (144, ti144), (148, ti148), (150, ti150), (151, ti151), (155, ti155), (157, ti157), (161, ti161), (162, ti162), (163, ti163), (167, ti167), (168, ti168), (170, ti170), (172, ti172), (174, ti174), (184, ti184), (192, ti192), (196, ti196), (203, ti203), (206, ti206), (208, ti208), (216, ti216), (218, ti218), (220, ti220), (222, ti222), (224, ti224), (227, ti227), (228, ti228), (229, ti229), (231, ti231), (233, ti233), (235, ti235), (236, ti236), (246, ti246), (248, ti248), (250, ti250), (254, ti254), (256, ti256), (265, ti265), (266, ti266), (268, ti268), (272, ti272), (290, ti290), (292, ti292), (294, ti294), (295, ti295), (298, ti298), (300, ti300), (310, ti310), (313, ti313), (324, ti324), (330, ti330), (341, ti341), (347, ti347), (349, ti349), (352, ti352), (354, ti354), (356, ti356), (357, ti357), (358, ti358), (360, ti360), (361, ti361), (363, ti363), (366, ti366)]
theorem tyTab_ok : ∀ p ∈ tyTab, TOK Tryz.prog p.1 p.2 := by
 unfold tyTab
 repeat (first|exact List.forall_mem_nil _|refine List.forall_mem_cons.2 ⟨by first|exact tok3|exact tok4|exact tok5|exact tok9|exact tok21|exact tok22|exact tok23|exact tok24|exact tok25|exact tok26|exact tok27|exact tok28|exact tok30|exact tok31|exact tok32|exact tok33|exact tok38|exact tok40|exact tok42|exact tok43|exact tok44|exact tok46|exact tok48|exact tok55|exact tok62|exact tok64|exact tok66|exact tok70|exact tok86|exact tok91|exact tok102|exact tok104|exact tok105|exact tok107|exact tok110|exact tok112|exact tok114|exact tok119|exact tok121|exact tok131|exact tok133|exact tok136|exact tok137|exact tok138|exact tok140|exact tok142|exact tok144|exact tok148|exact tok150|exact tok151|exact tok155|exact tok157|exact tok161|exact tok162|exact tok163|exact tok167|exact tok168|exact tok170|exact tok172|exact tok174|exact tok184|exact tok192|exact tok196|exact tok203|exact tok206|exact tok208|exact tok216|exact tok218|exact tok220|exact tok222|exact tok224|exact tok227|exact tok228|exact tok229|exact tok231|exact tok233|exact tok235|exact tok236|exact tok246|exact tok248|exact tok250|exact tok254|exact tok256|exact tok265|exact tok266|exact tok268|exact tok272|exact tok290|exact tok292|exact tok294|exact tok295|exact tok298|exact tok300|exact tok310|exact tok313|exact tok324|exact tok330|exact tok341|exact tok347|exact tok349|exact tok352|exact tok354|exact tok356|exact tok357|exact tok358|exact tok360|exact tok361|exact tok363|exact tok366, ?_⟩)
def tt : Nat → Option TI := lookT tyTab
def en : Nat → Bool := fun f => Nat.ble 3 f && Nat.ble f 320 && !Nat.beq f 214 && !Nat.beq f 270 && !Nat.beq f 318
theorem pg : PgOK Tryz.prog tt en :=
 ⟨lookT_ok tyTab_ok, fun f h => entB_ok (by
  have k := List.all_eq_true.1 (show (List.range 321).all (fun f => !(Nat.ble 3 f && Nat.ble f 320 && !Nat.beq f 214 && !Nat.beq f 270 && !Nat.beq f 318) || entB Tryz.prog f) = true by kernel_rfl) f (List.mem_range.2 (by simp [en] at h;omega))
  have h2 : (Nat.ble 3 f && Nat.ble f 320 && !Nat.beq f 214 && !Nat.beq f 270 && !Nat.beq f 318) = true := h
  rw [h2] at k;simpa using k), by kernel_rfl⟩
abbrev ordZ : Nat → Ord × (Nat → Cls) := fun _ => (.done, clOf [])
abbrev ord7 := ordZ
def ord9 : Nat → Ord × (Nat → Cls) := fun id => bif Nat.beq id 10 then (.one 0 (.one 1 (.one 2 (.one 3 (.one 4 (.one 5 (.one 6 (.one 7 (.one 8 (.one 9 (.one 10 (.one 11 (.one 12 (.one 13 (.one 14 (.one 15 (.one 16 .done)))))))))))))))), clOf [.pure, .pure, .pure, .pure, .pure, .pure, .pure, .pure, .pure, .pure, .read, .pure, .read, .ext, .loud, .pure, .pure]) else (.done, clOf [])
def ord12 : Nat → Ord × (Nat → Cls) := fun id => bif Nat.beq id 3 then (.one 1 (.one 5 (.one 9 (.alt 0 (.alt 2 (.one 3 (.alt 4 (.alt 6 (.one 7 (.alt 8 (.alt 10 (.one 11 (.alt 12 (.one 13 (.one 14 (.one 15 .done))) (.alt 14 (.one 12 (.one 13 (.one 15 .done))) (.none)))) (.alt 14 (.one 10 (.one 11 (.one 12 (.one 13 (.one 15 .done))))) (.none))) (.alt 10 (.one 11 (.alt 8 (.alt 12 (.one 13 (.one 14 (.one 15 .done))) (.alt 14 (.one 12 (.one 13 (.one 15 .done))) (.none))) (.alt 12 (.alt 8 (.one 13 (.one 14 (.one 15 .done))) (.alt 14 (.one 8 (.one 13 (.one 15 .done))) (.none))) (.alt 14 (.alt 8 (.one 12 (.one 13 (.one 15 .done))) (.alt 12 (.one 8 (.one 13 (.one 15 .done))) (.none))) (.none))))) (.alt 14 (.alt 8 (.one 10 (.one 11 (.one 12 (.one 13 (.one 15 .done))))) (.alt 10 (.one 11 (.alt 8 (.one 12 (.one 13 (.one 15 .done))) (.alt 12 (.one 8 (.one 13 (.one 15 .done))) (.none)))) (.none))) (.none))))) (.alt 14 (.one 6 (.one 7 (.alt 8 (.one 10 (.one 11 (.one 12 (.one 13 (.one 15 .done))))) (.alt 10 (.one 11 (.alt 8 (.one 12 (.one 13 (.one 15 .done))) (.alt 12 (.one 8 (.one 13 (.one 15 .done))) (.none)))) (.none))))) (.none))) (.alt 6 (.one 7 (.alt 4 (.alt 8 (.alt 10 (.one 11 (.alt 12 (.one 13 (.one 14 (.one 15 .done))) (.alt 14 (.one 12 (.one 13 (.one 15 .done))) (.none)))) (.alt 14 (.one 10 (.one 11 (.one 12 (.one 13 (.one 15 .done))))) (.none))) (.alt 10 (.one 11 (.alt 8 (.alt 12 (.one 13 (.one 14 (.one 15 .done))) (.alt 14 (.one 12 (.one 13 (.one 15 .done))) (.none))) (.alt 12 (.alt 8 (.one 13 (.one 14 (.one 15 .done))) (.alt 14 (.one 8 (.one 13 (.one 15 .done))) (.none))) (.alt 14 (.alt 8 (.one 12 (.one 13 (.one 15 .done))) (.alt 12 (.one 8 (.one 13 (.one 15 .done))) (.none))) (.none))))) (.alt 14 (.alt 8 (.one 10 (.one 11 (.one 12 (.one 13 (.one 15 .done))))) (.alt 10 (.one 11 (.alt 8 (.one 12 (.one 13 (.one 15 .done))) (.alt 12 (.one 8 (.one 13 (.one 15 .done))) (.none)))) (.none))) (.none)))) (.alt 8 (.alt 4 (.alt 10 (.one 11 (.alt 12 (.one 13 (.one 14 (.one 15 .done))) (.alt 14 (.one 12 (.one 13 (.one 15 .done))) (.none)))) (.alt 14 (.one 10 (.one 11 (.one 12 (.one 13 (.one 15 .done))))) (.none))) (.alt 10 (.one 11 (.alt 4 (.alt 12 (.one 13 (.one 14 (.one 15 .done))) (.alt 14 (.one 12 (.one 13 (.one 15 .done))) (.none))) (.alt 12 (.alt 4 (.one 13 (.one 14 (.one 15 .done))) (.alt 14 (.one 4 (.one 13 (.one 15 .done))) (.none))) (.alt 14 (.alt 4 (.one 12 (.one 13 (.one 15 .done))) (.alt 12 (.one 4 (.one 13 (.one 15 .done))) (.none))) (.none))))) (.alt 14 (.alt 4 (.one 10 (.one 11 (.one 12 (.one 13 (.one 15 .done))))) (.alt 10 (.one 11 (.alt 4 (.one 12 (.one 13 (.one 15 .done))) (.alt 12 (.one 4 (.one 13 (.one 15 .done))) (.none)))) (.none))) (.none)))) (.alt 10 (.one 11 (.alt 4 (.alt 8 (.alt 12 (.one 13 (.one 14 (.one 15 .done))) (.alt 14 (.one 12 (.one 13 (.one 15 .done))) (.none))) (.alt 12 (.alt 8 (.one 13 (.one 14 (.one 15 .done))) (.alt 14 (.one 8 (.one 13 (.one 15 .done))) (.none))) (.alt 14 (.alt 8 (.one 12 (.one 13 (.one 15 .done))) (.alt 12 (.one 8 (.one 13 (.one 15 .done))) (.none))) (.none)))) (.alt 8 (.alt 4 (.alt 12 (.one 13 (.one 14 (.one 15 .done))) (.alt 14 (.one 12 (.one 13 (.one 15 .done))) (.none))) (.alt 12 (.alt 4 (.one 13 (.one 14 (.one 15 .done))) (.alt 14 (.one 4 (.one 13 (.one 15 .done))) (.none))) (.alt 14 (.alt 4 (.one 12 (.one 13 (.one 15 .done))) (.alt 12 (.one 4 (.one 13 (.one 15 .done))) (.none))) (.none)))) (.alt 12 (.alt 4 (.alt 8 (.one 13 (.one 14 (.one 15 .done))) (.alt 14 (.one 8 (.one 13 (.one 15 .done))) (.none))) (.alt 8 (.alt 4 (.one 13 (.one 14 (.one 15 .done))) (.alt 14 (.one 4 (.one 13 (.one 15 .done))) (.none))) (.alt 14 (.alt 4 (.one 8 (.one 13 (.one 15 .done))) (.alt 8 (.one 4 (.one 13 (.one 15 .done))) (.none))) (.none)))) (.alt 14 (.alt 4 (.alt 8 (.one 12 (.one 13 (.one 15 .done))) (.alt 12 (.one 8 (.one 13 (.one 15 .done))) (.none))) (.alt 8 (.alt 4 (.one 12 (.one 13 (.one 15 .done))) (.alt 12 (.one 4 (.one 13 (.one 15 .done))) (.none))) (.alt 12 (.alt 4 (.one 8 (.one 13 (.one 15 .done))) (.alt 8 (.one 4 (.one 13 (.one 15 .done))) (.none))) (.none)))) (.none)))))) (.alt 14 (.alt 4 (.alt 8 (.one 10 (.one 11 (.one 12 (.one 13 (.one 15 .done))))) (.alt 10 (.one 11 (.alt 8 (.one 12 (.one 13 (.one 15 .done))) (.alt 12 (.one 8 (.one 13 (.one 15 .done))) (.none)))) (.none))) (.alt 8 (.alt 4 (.one 10 (.one 11 (.one 12 (.one 13 (.one 15 .done))))) (.alt 10 (.one 11 (.alt 4 (.one 12 (.one 13 (.one 15 .done))) (.alt 12 (.one 4 (.one 13 (.one 15 .done))) (.none)))) (.none))) (.alt 10 (.one 11 (.alt 4 (.alt 8 (.one 12 (.one 13 (.one 15 .done))) (.alt 12 (.one 8 (.one 13 (.one 15 .done))) (.none))) (.alt 8 (.alt 4 (.one 12 (.one 13 (.one 15 .done))) (.alt 12 (.one 4 (.one 13 (.one 15 .done))) (.none))) (.alt 12 (.alt 4 (.one 8 (.one 13 (.one 15 .done))) (.alt 8 (.one 4 (.one 13 (.one 15 .done))) (.none))) (.none))))) (.none)))) (.none)))))) (.alt 14 (.alt 4 (.one 6 (.one 7 (.alt 8 (.one 10 (.one 11 (.one 12 (.one 13 (.one 15 .done))))) (.alt 10 (.one 11 (.alt 8 (.one 12 (.one 13 (.one 15 .done))) (.alt 12 (.one 8 (.one 13 (.one 15 .done))) (.none)))) (.none))))) (.alt 6 (.one 7 (.alt 4 (.alt 8 (.one 10 (.one 11 (.one 12 (.one 13 (.one 15 .done))))) (.alt 10 (.one 11 (.alt 8 (.one 12 (.one 13 (.one 15 .done))) (.alt 12 (.one 8 (.one 13 (.one 15 .done))) (.none)))) (.none))) (.alt 8 (.alt 4 (.one 10 (.one 11 (.one 12 (.one 13 (.one 15 .done))))) (.alt 10 (.one 11 (.alt 4 (.one 12 (.one 13 (.one 15 .done))) (.alt 12 (.one 4 (.one 13 (.one 15 .done))) (.none)))) (.none))) (.alt 10 (.one 11 (.alt 4 (.alt 8 (.one 12 (.one 13 (.one 15 .done))) (.alt 12 (.one 8 (.one 13 (.one 15 .done))) (.none))) (.alt 8 (.alt 4 (.one 12 (.one 13 (.one 15 .done))) (.alt 12 (.one 4 (.one 13 (.one 15 .done))) (.none))) (.alt 12 (.alt 4 (.one 8 (.one 13 (.one 15 .done))) (.alt 8 (.one 4 (.one 13 (.one 15 .done))) (.none))) (.none))))) (.none))))) (.none))) (.none))))) (.alt 14 (.one 2 (.one 3 (.alt 4 (.one 6 (.one 7 (.alt 8 (.one 10 (.one 11 (.one 12 (.one 13 (.one 15 .done))))) (.alt 10 (.one 11 (.alt 8 (.one 12 (.one 13 (.one 15 .done))) (.alt 12 (.one 8 (.one 13 (.one 15 .done))) (.none)))) (.none))))) (.alt 6 (.one 7 (.alt 4 (.alt 8 (.one 10 (.one 11 (.one 12 (.one 13 (.one 15 .done))))) (.alt 10 (.one 11 (.alt 8 (.one 12 (.one 13 (.one 15 .done))) (.alt 12 (.one 8 (.one 13 (.one 15 .done))) (.none)))) (.none))) (.alt 8 (.alt 4 (.one 10 (.one 11 (.one 12 (.one 13 (.one 15 .done))))) (.alt 10 (.one 11 (.alt 4 (.one 12 (.one 13 (.one 15 .done))) (.alt 12 (.one 4 (.one 13 (.one 15 .done))) (.none)))) (.none))) (.alt 10 (.one 11 (.alt 4 (.alt 8 (.one 12 (.one 13 (.one 15 .done))) (.alt 12 (.one 8 (.one 13 (.one 15 .done))) (.none))) (.alt 8 (.alt 4 (.one 12 (.one 13 (.one 15 .done))) (.alt 12 (.one 4 (.one 13 (.one 15 .done))) (.none))) (.alt 12 (.alt 4 (.one 8 (.one 13 (.one 15 .done))) (.alt 8 (.one 4 (.one 13 (.one 15 .done))) (.none))) (.none))))) (.none))))) (.none))))) (.none))) (.alt 2 (.one 3 (.alt 0 (.alt 4 (.alt 6 (.one 7 (.alt 8 (.alt 10 (.one 11 (.alt 12 (.one 13 (.one 14 (.one 15 .done))) (.alt 14 (.one 12 (.one 13 (.one 15 .done))) (.none)))) (.alt 14 (.one 10 (.one 11 (.one 12 (.one 13 (.one 15 .done))))) (.none))) (.alt 10 (.one 11 (.alt 8 (.alt 12 (.one 13 (.one 14 (.one 15 .done))) (.alt 14 (.one 12 (.one 13 (.one 15 .done))) (.none))) (.alt 12 (.alt 8 (.one 13 (.one 14 (.one 15 .done))) (.alt 14 (.one 8 (.one 13 (.one 15 .done))) (.none))) (.alt 14 (.alt 8 (.one 12 (.one 13 (.one 15 .done))) (.alt 12 (.one 8 (.one 13 (.one 15 .done))) (.none))) (.none))))) (.alt 14 (.alt 8 (.one 10 (.one 11 (.one 12 (.one 13 (.one 15 .done))))) (.alt 10 (.one 11 (.alt 8 (.one 12 (.one 13 (.one 15 .done))) (.alt 12 (.one 8 (.one 13 (.one 15 .done))) (.none)))) (.none))) (.none))))) (.alt 14 (.one 6 (.one 7 (.alt 8 (.one 10 (.one 11 (.one 12 (.one 13 (.one 15 .done))))) (.alt 10 (.one 11 (.alt 8 (.one 12 (.one 13 (.one 15 .done))) (.alt 12 (.one 8 (.one 13 (.one 15 .done))) (.none)))) (.none))))) (.none))) (.alt 6 (.one 7 (.alt 4 (.alt 8 (.alt 10 (.one 11 (.alt 12 (.one 13 (.one 14 (.one 15 .done))) (.alt 14 (.one 12 (.one 13 (.one 15 .done))) (.none)))) (.alt 14 (.one 10 (.one 11 (.one 12 (.one 13 (.one 15 .done))))) (.none))) (.alt 10 (.one 11 (.alt 8 (.alt 12 (.one 13 (.one 14 (.one 15 .done))) (.alt 14 (.one 12 (.one 13 (.one 15 .done))) (.none))) (.alt 12 (.alt 8 (.one 13 (.one 14 (.one 15 .done))) (.alt 14 (.one 8 (.one 13 (.one 15 .done))) (.none))) (.alt 14 (.alt 8 (.one 12 (.one 13 (.one 15 .done))) (.alt 12 (.one 8 (.one 13 (.one 15 .done))) (.none))) (.none))))) (.alt 14 (.alt 8 (.one 10 (.one 11 (.one 12 (.one 13 (.one 15 .done))))) (.alt 10 (.one 11 (.alt 8 (.one 12 (.one 13 (.one 15 .done))) (.alt 12 (.one 8 (.one 13 (.one 15 .done))) (.none)))) (.none))) (.none)))) (.alt 8 (.alt 4 (.alt 10 (.one 11 (.alt 12 (.one 13 (.one 14 (.one 15 .done))) (.alt 14 (.one 12 (.one 13 (.one 15 .done))) (.none)))) (.alt 14 (.one 10 (.one 11 (.one 12 (.one 13 (.one 15 .done))))) (.none))) (.alt 10 (.one 11 (.alt 4 (.alt 12 (.one 13 (.one 14 (.one 15 .done))) (.alt 14 (.one 12 (.one 13 (.one 15 .done))) (.none))) (.alt 12 (.alt 4 (.one 13 (.one 14 (.one 15 .done))) (.alt 14 (.one 4 (.one 13 (.one 15 .done))) (.none))) (.alt 14 (.alt 4 (.one 12 (.one 13 (.one 15 .done))) (.alt 12 (.one 4 (.one 13 (.one 15 .done))) (.none))) (.none))))) (.alt 14 (.alt 4 (.one 10 (.one 11 (.one 12 (.one 13 (.one 15 .done))))) (.alt 10 (.one 11 (.alt 4 (.one 12 (.one 13 (.one 15 .done))) (.alt 12 (.one 4 (.one 13 (.one 15 .done))) (.none)))) (.none))) (.none)))) (.alt 10 (.one 11 (.alt 4 (.alt 8 (.alt 12 (.one 13 (.one 14 (.one 15 .done))) (.alt 14 (.one 12 (.one 13 (.one 15 .done))) (.none))) (.alt 12 (.alt 8 (.one 13 (.one 14 (.one 15 .done))) (.alt 14 (.one 8 (.one 13 (.one 15 .done))) (.none))) (.alt 14 (.alt 8 (.one 12 (.one 13 (.one 15 .done))) (.alt 12 (.one 8 (.one 13 (.one 15 .done))) (.none))) (.none)))) (.alt 8 (.alt 4 (.alt 12 (.one 13 (.one 14 (.one 15 .done))) (.alt 14 (.one 12 (.one 13 (.one 15 .done))) (.none))) (.alt 12 (.alt 4 (.one 13 (.one 14 (.one 15 .done))) (.alt 14 (.one 4 (.one 13 (.one 15 .done))) (.none))) (.alt 14 (.alt 4 (.one 12 (.one 13 (.one 15 .done))) (.alt 12 (.one 4 (.one 13 (.one 15 .done))) (.none))) (.none)))) (.alt 12 (.alt 4 (.alt 8 (.one 13 (.one 14 (.one 15 .done))) (.alt 14 (.one 8 (.one 13 (.one 15 .done))) (.none))) (.alt 8 (.alt 4 (.one 13 (.one 14 (.one 15 .done))) (.alt 14 (.one 4 (.one 13 (.one 15 .done))) (.none))) (.alt 14 (.alt 4 (.one 8 (.one 13 (.one 15 .done))) (.alt 8 (.one 4 (.one 13 (.one 15 .done))) (.none))) (.none)))) (.alt 14 (.alt 4 (.alt 8 (.one 12 (.one 13 (.one 15 .done))) (.alt 12 (.one 8 (.one 13 (.one 15 .done))) (.none))) (.alt 8 (.alt 4 (.one 12 (.one 13 (.one 15 .done))) (.alt 12 (.one 4 (.one 13 (.one 15 .done))) (.none))) (.alt 12 (.alt 4 (.one 8 (.one 13 (.one 15 .done))) (.alt 8 (.one 4 (.one 13 (.one 15 .done))) (.none))) (.none)))) (.none)))))) (.alt 14 (.alt 4 (.alt 8 (.one 10 (.one 11 (.one 12 (.one 13 (.one 15 .done))))) (.alt 10 (.one 11 (.alt 8 (.one 12 (.one 13 (.one 15 .done))) (.alt 12 (.one 8 (.one 13 (.one 15 .done))) (.none)))) (.none))) (.alt 8 (.alt 4 (.one 10 (.one 11 (.one 12 (.one 13 (.one 15 .done))))) (.alt 10 (.one 11 (.alt 4 (.one 12 (.one 13 (.one 15 .done))) (.alt 12 (.one 4 (.one 13 (.one 15 .done))) (.none)))) (.none))) (.alt 10 (.one 11 (.alt 4 (.alt 8 (.one 12 (.one 13 (.one 15 .done))) (.alt 12 (.one 8 (.one 13 (.one 15 .done))) (.none))) (.alt 8 (.alt 4 (.one 12 (.one 13 (.one 15 .done))) (.alt 12 (.one 4 (.one 13 (.one 15 .done))) (.none))) (.alt 12 (.alt 4 (.one 8 (.one 13 (.one 15 .done))) (.alt 8 (.one 4 (.one 13 (.one 15 .done))) (.none))) (.none))))) (.none)))) (.none)))))) (.alt 14 (.alt 4 (.one 6 (.one 7 (.alt 8 (.one 10 (.one 11 (.one 12 (.one 13 (.one 15 .done))))) (.alt 10 (.one 11 (.alt 8 (.one 12 (.one 13 (.one 15 .done))) (.alt 12 (.one 8 (.one 13 (.one 15 .done))) (.none)))) (.none))))) (.alt 6 (.one 7 (.alt 4 (.alt 8 (.one 10 (.one 11 (.one 12 (.one 13 (.one 15 .done))))) (.alt 10 (.one 11 (.alt 8 (.one 12 (.one 13 (.one 15 .done))) (.alt 12 (.one 8 (.one 13 (.one 15 .done))) (.none)))) (.none))) (.alt 8 (.alt 4 (.one 10 (.one 11 (.one 12 (.one 13 (.one 15 .done))))) (.alt 10 (.one 11 (.alt 4 (.one 12 (.one 13 (.one 15 .done))) (.alt 12 (.one 4 (.one 13 (.one 15 .done))) (.none)))) (.none))) (.alt 10 (.one 11 (.alt 4 (.alt 8 (.one 12 (.one 13 (.one 15 .done))) (.alt 12 (.one 8 (.one 13 (.one 15 .done))) (.none))) (.alt 8 (.alt 4 (.one 12 (.one 13 (.one 15 .done))) (.alt 12 (.one 4 (.one 13 (.one 15 .done))) (.none))) (.alt 12 (.alt 4 (.one 8 (.one 13 (.one 15 .done))) (.alt 8 (.one 4 (.one 13 (.one 15 .done))) (.none))) (.none))))) (.none))))) (.none))) (.none)))) (.alt 6 (.one 7 (.alt 0 (.alt 4 (.alt 8 (.alt 10 (.one 11 (.alt 12 (.one 13 (.one 14 (.one 15 .done))) (.alt 14 (.one 12 (.one 13 (.one 15 .done))) (.none)))) (.alt 14 (.one 10 (.one 11 (.one 12 (.one 13 (.one 15 .done))))) (.none))) (.alt 10 (.one 11 (.alt 8 (.alt 12 (.one 13 (.one 14 (.one 15 .done))) (.alt 14 (.one 12 (.one 13 (.one 15 .done))) (.none))) (.alt 12 (.alt 8 (.one 13 (.one 14 (.one 15 .done))) (.alt 14 (.one 8 (.one 13 (.one 15 .done))) (.none))) (.alt 14 (.alt 8 (.one 12 (.one 13 (.one 15 .done))) (.alt 12 (.one 8 (.one 13 (.one 15 .done))) (.none))) (.none))))) (.alt 14 (.alt 8 (.one 10 (.one 11 (.one 12 (.one 13 (.one 15 .done))))) (.alt 10 (.one 11 (.alt 8 (.one 12 (.one 13 (.one 15 .done))) (.alt 12 (.one 8 (.one 13 (.one 15 .done))) (.none)))) (.none))) (.none)))) (.alt 8 (.alt 4 (.alt 10 (.one 11 (.alt 12 (.one 13 (.one 14 (.one 15 .done))) (.alt 14 (.one 12 (.one 13 (.one 15 .done))) (.none)))) (.alt 14 (.one 10 (.one 11 (.one 12 (.one 13 (.one 15 .done))))) (.none))) (.alt 10 (.one 11 (.alt 4 (.alt 12 (.one 13 (.one 14 (.one 15 .done))) (.alt 14 (.one 12 (.one 13 (.one 15 .done))) (.none))) (.alt 12 (.alt 4 (.one 13 (.one 14 (.one 15 .done))) (.alt 14 (.one 4 (.one 13 (.one 15 .done))) (.none))) (.alt 14 (.alt 4 (.one 12 (.one 13 (.one 15 .done))) (.alt 12 (.one 4 (.one 13 (.one 15 .done))) (.none))) (.none))))) (.alt 14 (.alt 4 (.one 10 (.one 11 (.one 12 (.one 13 (.one 15 .done))))) (.alt 10 (.one 11 (.alt 4 (.one 12 (.one 13 (.one 15 .done))) (.alt 12 (.one 4 (.one 13 (.one 15 .done))) (.none)))) (.none))) (.none)))) (.alt 10 (.one 11 (.alt 4 (.alt 8 (.alt 12 (.one 13 (.one 14 (.one 15 .done))) (.alt 14 (.one 12 (.one 13 (.one 15 .done))) (.none))) (.alt 12 (.alt 8 (.one 13 (.one 14 (.one 15 .done))) (.alt 14 (.one 8 (.one 13 (.one 15 .done))) (.none))) (.alt 14 (.alt 8 (.one 12 (.one 13 (.one 15 .done))) (.alt 12 (.one 8 (.one 13 (.one 15 .done))) (.none))) (.none)))) (.alt 8 (.alt 4 (.alt 12 (.one 13 (.one 14 (.one 15 .done))) (.alt 14 (.one 12 (.one 13 (.one 15 .done))) (.none))) (.alt 12 (.alt 4 (.one 13 (.one 14 (.one 15 .done))) (.alt 14 (.one 4 (.one 13 (.one 15 .done))) (.none))) (.alt 14 (.alt 4 (.one 12 (.one 13 (.one 15 .done))) (.alt 12 (.one 4 (.one 13 (.one 15 .done))) (.none))) (.none)))) (.alt 12 (.alt 4 (.alt 8 (.one 13 (.one 14 (.one 15 .done))) (.alt 14 (.one 8 (.one 13 (.one 15 .done))) (.none))) (.alt 8 (.alt 4 (.one 13 (.one 14 (.one 15 .done))) (.alt 14 (.one 4 (.one 13 (.one 15 .done))) (.none))) (.alt 14 (.alt 4 (.one 8 (.one 13 (.one 15 .done))) (.alt 8 (.one 4 (.one 13 (.one 15 .done))) (.none))) (.none)))) (.alt 14 (.alt 4 (.alt 8 (.one 12 (.one 13 (.one 15 .done))) (.alt 12 (.one 8 (.one 13 (.one 15 .done))) (.none))) (.alt 8 (.alt 4 (.one 12 (.one 13 (.one 15 .done))) (.alt 12 (.one 4 (.one 13 (.one 15 .done))) (.none))) (.alt 12 (.alt 4 (.one 8 (.one 13 (.one 15 .done))) (.alt 8 (.one 4 (.one 13 (.one 15 .done))) (.none))) (.none)))) (.none)))))) (.alt 14 (.alt 4 (.alt 8 (.one 10 (.one 11 (.one 12 (.one 13 (.one 15 .done))))) (.alt 10 (.one 11 (.alt 8 (.one 12 (.one 13 (.one 15 .done))) (.alt 12 (.one 8 (.one 13 (.one 15 .done))) (.none)))) (.none))) (.alt 8 (.alt 4 (.one 10 (.one 11 (.one 12 (.one 13 (.one 15 .done))))) (.alt 10 (.one 11 (.alt 4 (.one 12 (.one 13 (.one 15 .done))) (.alt 12 (.one 4 (.one 13 (.one 15 .done))) (.none)))) (.none))) (.alt 10 (.one 11 (.alt 4 (.alt 8 (.one 12 (.one 13 (.one 15 .done))) (.alt 12 (.one 8 (.one 13 (.one 15 .done))) (.none))) (.alt 8 (.alt 4 (.one 12 (.one 13 (.one 15 .done))) (.alt 12 (.one 4 (.one 13 (.one 15 .done))) (.none))) (.alt 12 (.alt 4 (.one 8 (.one 13 (.one 15 .done))) (.alt 8 (.one 4 (.one 13 (.one 15 .done))) (.none))) (.none))))) (.none)))) (.none))))) (.alt 10 (.one 11 (.alt 0 (.alt 4 (.alt 8 (.alt 12 (.one 13 (.one 14 (.one 15 .done))) (.alt 14 (.one 12 (.one 13 (.one 15 .done))) (.none))) (.alt 12 (.alt 8 (.one 13 (.one 14 (.one 15 .done))) (.alt 14 (.one 8 (.one 13 (.one 15 .done))) (.none))) (.alt 14 (.alt 8 (.one 12 (.one 13 (.one 15 .done))) (.alt 12 (.one 8 (.one 13 (.one 15 .done))) (.none))) (.none)))) (.alt 8 (.alt 4 (.alt 12 (.one 13 (.one 14 (.one 15 .done))) (.alt 14 (.one 12 (.one 13 (.one 15 .done))) (.none))) (.alt 12 (.alt 4 (.one 13 (.one 14 (.one 15 .done))) (.alt 14 (.one 4 (.one 13 (.one 15 .done))) (.none))) (.alt 14 (.alt 4 (.one 12 (.one 13 (.one 15 .done))) (.alt 12 (.one 4 (.one 13 (.one 15 .done))) (.none))) (.none)))) (.alt 12 (.alt 4 (.alt 8 (.one 13 (.one 14 (.one 15 .done))) (.alt 14 (.one 8 (.one 13 (.one 15 .done))) (.none))) (.alt 8 (.alt 4 (.one 13 (.one 14 (.one 15 .done))) (.alt 14 (.one 4 (.one 13 (.one 15 .done))) (.none))) (.alt 14 (.alt 4 (.one 8 (.one 13 (.one 15 .done))) (.alt 8 (.one 4 (.one 13 (.one 15 .done))) (.none))) (.none)))) (.alt 14 (.alt 4 (.alt 8 (.one 12 (.one 13 (.one 15 .done))) (.alt 12 (.one 8 (.one 13 (.one 15 .done))) (.none))) (.alt 8 (.alt 4 (.one 12 (.one 13 (.one 15 .done))) (.alt 12 (.one 4 (.one 13 (.one 15 .done))) (.none))) (.alt 12 (.alt 4 (.one 8 (.one 13 (.one 15 .done))) (.alt 8 (.one 4 (.one 13 (.one 15 .done))) (.none))) (.none)))) (.none))))) (.alt 14 (.one 0 (.alt 4 (.alt 8 (.one 12 (.one 13 (.one 15 .done))) (.alt 12 (.one 8 (.one 13 (.one 15 .done))) (.none))) (.alt 8 (.alt 4 (.one 12 (.one 13 (.one 15 .done))) (.alt 12 (.one 4 (.one 13 (.one 15 .done))) (.none))) (.alt 12 (.alt 4 (.one 8 (.one 13 (.one 15 .done))) (.alt 8 (.one 4 (.one 13 (.one 15 .done))) (.none))) (.none))))) (.none)))) (.alt 14 (.alt 0 (.alt 4 (.alt 8 (.one 10 (.one 11 (.one 12 (.one 13 (.one 15 .done))))) (.alt 10 (.one 11 (.alt 8 (.one 12 (.one 13 (.one 15 .done))) (.alt 12 (.one 8 (.one 13 (.one 15 .done))) (.none)))) (.none))) (.alt 8 (.alt 4 (.one 10 (.one 11 (.one 12 (.one 13 (.one 15 .done))))) (.alt 10 (.one 11 (.alt 4 (.one 12 (.one 13 (.one 15 .done))) (.alt 12 (.one 4 (.one 13 (.one 15 .done))) (.none)))) (.none))) (.alt 10 (.one 11 (.alt 4 (.alt 8 (.one 12 (.one 13 (.one 15 .done))) (.alt 12 (.one 8 (.one 13 (.one 15 .done))) (.none))) (.alt 8 (.alt 4 (.one 12 (.one 13 (.one 15 .done))) (.alt 12 (.one 4 (.one 13 (.one 15 .done))) (.none))) (.alt 12 (.alt 4 (.one 8 (.one 13 (.one 15 .done))) (.alt 8 (.one 4 (.one 13 (.one 15 .done))) (.none))) (.none))))) (.none)))) (.alt 10 (.one 11 (.one 0 (.alt 4 (.alt 8 (.one 12 (.one 13 (.one 15 .done))) (.alt 12 (.one 8 (.one 13 (.one 15 .done))) (.none))) (.alt 8 (.alt 4 (.one 12 (.one 13 (.one 15 .done))) (.alt 12 (.one 4 (.one 13 (.one 15 .done))) (.none))) (.alt 12 (.alt 4 (.one 8 (.one 13 (.one 15 .done))) (.alt 8 (.one 4 (.one 13 (.one 15 .done))) (.none))) (.none)))))) (.none))) (.none))))) (.alt 14 (.alt 0 (.alt 4 (.one 6 (.one 7 (.alt 8 (.one 10 (.one 11 (.one 12 (.one 13 (.one 15 .done))))) (.alt 10 (.one 11 (.alt 8 (.one 12 (.one 13 (.one 15 .done))) (.alt 12 (.one 8 (.one 13 (.one 15 .done))) (.none)))) (.none))))) (.alt 6 (.one 7 (.alt 4 (.alt 8 (.one 10 (.one 11 (.one 12 (.one 13 (.one 15 .done))))) (.alt 10 (.one 11 (.alt 8 (.one 12 (.one 13 (.one 15 .done))) (.alt 12 (.one 8 (.one 13 (.one 15 .done))) (.none)))) (.none))) (.alt 8 (.alt 4 (.one 10 (.one 11 (.one 12 (.one 13 (.one 15 .done))))) (.alt 10 (.one 11 (.alt 4 (.one 12 (.one 13 (.one 15 .done))) (.alt 12 (.one 4 (.one 13 (.one 15 .done))) (.none)))) (.none))) (.alt 10 (.one 11 (.alt 4 (.alt 8 (.one 12 (.one 13 (.one 15 .done))) (.alt 12 (.one 8 (.one 13 (.one 15 .done))) (.none))) (.alt 8 (.alt 4 (.one 12 (.one 13 (.one 15 .done))) (.alt 12 (.one 4 (.one 13 (.one 15 .done))) (.none))) (.alt 12 (.alt 4 (.one 8 (.one 13 (.one 15 .done))) (.alt 8 (.one 4 (.one 13 (.one 15 .done))) (.none))) (.none))))) (.none))))) (.none))) (.alt 6 (.one 7 (.alt 0 (.alt 4 (.alt 8 (.one 10 (.one 11 (.one 12 (.one 13 (.one 15 .done))))) (.alt 10 (.one 11 (.alt 8 (.one 12 (.one 13 (.one 15 .done))) (.alt 12 (.one 8 (.one 13 (.one 15 .done))) (.none)))) (.none))) (.alt 8 (.alt 4 (.one 10 (.one 11 (.one 12 (.one 13 (.one 15 .done))))) (.alt 10 (.one 11 (.alt 4 (.one 12 (.one 13 (.one 15 .done))) (.alt 12 (.one 4 (.one 13 (.one 15 .done))) (.none)))) (.none))) (.alt 10 (.one 11 (.alt 4 (.alt 8 (.one 12 (.one 13 (.one 15 .done))) (.alt 12 (.one 8 (.one 13 (.one 15 .done))) (.none))) (.alt 8 (.alt 4 (.one 12 (.one 13 (.one 15 .done))) (.alt 12 (.one 4 (.one 13 (.one 15 .done))) (.none))) (.alt 12 (.alt 4 (.one 8 (.one 13 (.one 15 .done))) (.alt 8 (.one 4 (.one 13 (.one 15 .done))) (.none))) (.none))))) (.none)))) (.alt 10 (.one 11 (.one 0 (.alt 4 (.alt 8 (.one 12 (.one 13 (.one 15 .done))) (.alt 12 (.one 8 (.one 13 (.one 15 .done))) (.none))) (.alt 8 (.alt 4 (.one 12 (.one 13 (.one 15 .done))) (.alt 12 (.one 4 (.one 13 (.one 15 .done))) (.none))) (.alt 12 (.alt 4 (.one 8 (.one 13 (.one 15 .done))) (.alt 8 (.one 4 (.one 13 (.one 15 .done))) (.none))) (.none)))))) (.none)))) (.none))) (.none))))) (.alt 14 (.alt 0 (.one 2 (.one 3 (.alt 4 (.one 6 (.one 7 (.alt 8 (.one 10 (.one 11 (.one 12 (.one 13 (.one 15 .done))))) (.alt 10 (.one 11 (.alt 8 (.one 12 (.one 13 (.one 15 .done))) (.alt 12 (.one 8 (.one 13 (.one 15 .done))) (.none)))) (.none))))) (.alt 6 (.one 7 (.alt 4 (.alt 8 (.one 10 (.one 11 (.one 12 (.one 13 (.one 15 .done))))) (.alt 10 (.one 11 (.alt 8 (.one 12 (.one 13 (.one 15 .done))) (.alt 12 (.one 8 (.one 13 (.one 15 .done))) (.none)))) (.none))) (.alt 8 (.alt 4 (.one 10 (.one 11 (.one 12 (.one 13 (.one 15 .done))))) (.alt 10 (.one 11 (.alt 4 (.one 12 (.one 13 (.one 15 .done))) (.alt 12 (.one 4 (.one 13 (.one 15 .done))) (.none)))) (.none))) (.alt 10 (.one 11 (.alt 4 (.alt 8 (.one 12 (.one 13 (.one 15 .done))) (.alt 12 (.one 8 (.one 13 (.one 15 .done))) (.none))) (.alt 8 (.alt 4 (.one 12 (.one 13 (.one 15 .done))) (.alt 12 (.one 4 (.one 13 (.one 15 .done))) (.none))) (.alt 12 (.alt 4 (.one 8 (.one 13 (.one 15 .done))) (.alt 8 (.one 4 (.one 13 (.one 15 .done))) (.none))) (.none))))) (.none))))) (.none))))) (.alt 2 (.one 3 (.alt 0 (.alt 4 (.one 6 (.one 7 (.alt 8 (.one 10 (.one 11 (.one 12 (.one 13 (.one 15 .done))))) (.alt 10 (.one 11 (.alt 8 (.one 12 (.one 13 (.one 15 .done))) (.alt 12 (.one 8 (.one 13 (.one 15 .done))) (.none)))) (.none))))) (.alt 6 (.one 7 (.alt 4 (.alt 8 (.one 10 (.one 11 (.one 12 (.one 13 (.one 15 .done))))) (.alt 10 (.one 11 (.alt 8 (.one 12 (.one 13 (.one 15 .done))) (.alt 12 (.one 8 (.one 13 (.one 15 .done))) (.none)))) (.none))) (.alt 8 (.alt 4 (.one 10 (.one 11 (.one 12 (.one 13 (.one 15 .done))))) (.alt 10 (.one 11 (.alt 4 (.one 12 (.one 13 (.one 15 .done))) (.alt 12 (.one 4 (.one 13 (.one 15 .done))) (.none)))) (.none))) (.alt 10 (.one 11 (.alt 4 (.alt 8 (.one 12 (.one 13 (.one 15 .done))) (.alt 12 (.one 8 (.one 13 (.one 15 .done))) (.none))) (.alt 8 (.alt 4 (.one 12 (.one 13 (.one 15 .done))) (.alt 12 (.one 4 (.one 13 (.one 15 .done))) (.none))) (.alt 12 (.alt 4 (.one 8 (.one 13 (.one 15 .done))) (.alt 8 (.one 4 (.one 13 (.one 15 .done))) (.none))) (.none))))) (.none))))) (.none))) (.alt 6 (.one 7 (.alt 0 (.alt 4 (.alt 8 (.one 10 (.one 11 (.one 12 (.one 13 (.one 15 .done))))) (.alt 10 (.one 11 (.alt 8 (.one 12 (.one 13 (.one 15 .done))) (.alt 12 (.one 8 (.one 13 (.one 15 .done))) (.none)))) (.none))) (.alt 8 (.alt 4 (.one 10 (.one 11 (.one 12 (.one 13 (.one 15 .done))))) (.alt 10 (.one 11 (.alt 4 (.one 12 (.one 13 (.one 15 .done))) (.alt 12 (.one 4 (.one 13 (.one 15 .done))) (.none)))) (.none))) (.alt 10 (.one 11 (.alt 4 (.alt 8 (.one 12 (.one 13 (.one 15 .done))) (.alt 12 (.one 8 (.one 13 (.one 15 .done))) (.none))) (.alt 8 (.alt 4 (.one 12 (.one 13 (.one 15 .done))) (.alt 12 (.one 4 (.one 13 (.one 15 .done))) (.none))) (.alt 12 (.alt 4 (.one 8 (.one 13 (.one 15 .done))) (.alt 8 (.one 4 (.one 13 (.one 15 .done))) (.none))) (.none))))) (.none)))) (.alt 10 (.one 11 (.one 0 (.alt 4 (.alt 8 (.one 12 (.one 13 (.one 15 .done))) (.alt 12 (.one 8 (.one 13 (.one 15 .done))) (.none))) (.alt 8 (.alt 4 (.one 12 (.one 13 (.one 15 .done))) (.alt 12 (.one 4 (.one 13 (.one 15 .done))) (.none))) (.alt 12 (.alt 4 (.one 8 (.one 13 (.one 15 .done))) (.alt 8 (.one 4 (.one 13 (.one 15 .done))) (.none))) (.none)))))) (.none)))) (.none)))) (.none))) (.none)))))), clOf [.ext, .read, .ext, .pure, .ext, .read, .ext, .pure, .ext, .read, .loud, .pure, .ext, .pure, .ext, .loud]) else (.done, clOf [])
abbrev ord14 := ordZ
abbrev ord16 := ordZ
abbrev ord18 := ordZ
def ord19 : Nat → Ord × (Nat → Cls) := fun id => bif Nat.beq id 6 then (.one 0 (.one 1 (.one 2 (.one 3 (.one 4 (.one 5 (.one 6 (.one 7 (.one 8 .done)))))))), clOf [.pure, .pure, .pure, .read, .pure, .pure, .pure, .read, .pure]) else (.done, clOf [])
abbrev ord28 := ordZ
def ord35 : Nat → Ord × (Nat → Cls) := fun id => bif Nat.beq id 3 then (.one 0 (.one 1 (.one 3 (.one 4 (.one 2 (.one 5 (.one 6 (.one 7 (.one 8 (.one 9 .done))))))))), clOf [.read, .pure, .ext, .pure, .read, .ext, .pure, .loud, .pure, .pure]) else (.done, clOf [])
def ord37 : Nat → Ord × (Nat → Cls) := fun id => bif Nat.beq id 3 then (.one 0 (.one 1 (.one 2 (.one 3 (.one 4 (.one 5 (.one 6 (.one 7 (.one 8 .done)))))))), clOf [.pure, .pure, .pure, .pure, .read, .read, .ext, .loud, .pure]) else bif Nat.beq id 5 then (.one 0 (.one 1 (.one 2 (.one 3 (.one 4 (.one 5 (.one 6 (.one 7 (.one 8 (.one 9 (.one 10 .done)))))))))), clOf [.pure, .pure, .pure, .pure, .read, .pure, .read, .loud, .pure, .pure, .pure]) else bif Nat.beq id 7 then (.one 0 (.one 1 (.one 2 (.one 3 (.one 4 (.one 5 (.one 6 (.one 7 (.one 8 .done)))))))), clOf [.pure, .read, .pure, .pure, .pure, .read, .pure, .ext, .pure]) else bif Nat.beq id 16 then (.one 0 (.one 1 (.one 2 (.one 3 (.one 4 (.one 5 (.one 6 (.one 7 (.one 8 (.one 9 (.one 10 (.one 11 .done))))))))))), clOf [.pure, .pure, .pure, .pure, .read, .read, .ext, .ext, .loud, .pure, .pure, .loud]) else (.done, clOf [])
abbrev ord39 := ordZ
abbrev ord40 := ordZ
abbrev ord43 := ordZ
def ord44 : Nat → Ord × (Nat → Cls) := fun id => bif Nat.beq id 16 then (.one 0 (.one 1 (.one 2 (.one 3 (.one 4 (.one 5 (.one 6 (.one 7 (.one 8 (.one 9 (.one 10 (.one 11 (.one 12 .done)))))))))))), clOf [.pure, .pure, .pure, .pure, .read, .pure, .read, .pure, .pure, .pure, .read, .pure, .pure]) else bif Nat.beq id 19 then (.one 0 (.one 1 (.one 2 (.one 3 (.one 4 (.one 5 (.one 6 (.one 7 (.one 8 (.one 9 (.one 10 .done)))))))))), clOf [.pure, .read, .pure, .read, .pure, .read, .pure, .read, .pure, .pure, .loud]) else bif Nat.beq id 21 then (.one 0 (.one 1 (.one 2 (.one 3 (.one 4 (.one 5 (.one 6 (.one 7 (.one 8 (.one 9 (.one 10 (.one 11 (.one 12 .done)))))))))))), clOf [.pure, .pure, .pure, .read, .pure, .read, .read, .loud, .pure, .pure, .pure, .pure, .loud]) else bif Nat.beq id 30 then (.one 0 (.one 1 (.one 2 (.one 3 (.one 4 (.one 5 (.one 6 (.one 7 (.one 8 (.one 9 (.one 10 .done)))))))))), clOf [.pure, .pure, .pure, .read, .pure, .read, .loud, .pure, .pure, .pure, .pure]) else bif Nat.beq id 32 then (.one 0 (.one 1 (.one 2 (.one 3 (.one 4 (.one 5 (.one 6 (.one 7 (.one 8 (.one 9 (.one 10 (.one 11 (.one 12 (.one 13 (.one 14 (.one 15 (.one 16 .done)))))))))))))))), clOf [.pure, .pure, .pure, .read, .pure, .pure, .ext, .pure, .pure, .loud, .pure, .pure, .loud, .pure, .pure, .pure, .loud]) else (.done, clOf [])
def ord45 : Nat → Ord × (Nat → Cls) := fun id => bif Nat.beq id 10 then (.one 0 (.one 1 (.one 2 (.one 4 (.one 5 (.one 6 (.alt 3 (.alt 7 (.alt 8 (.one 9 (.one 10 (.one 11 .done))) (.alt 9 (.one 8 (.one 10 (.one 11 .done))) (.none))) (.alt 8 (.alt 7 (.one 9 (.one 10 (.one 11 .done))) (.alt 9 (.one 7 (.one 10 (.one 11 .done))) (.none))) (.alt 9 (.alt 7 (.one 8 (.one 10 (.one 11 .done))) (.alt 8 (.one 7 (.one 10 (.one 11 .done))) (.none))) (.none)))) (.alt 8 (.alt 3 (.alt 7 (.one 9 (.one 10 (.one 11 .done))) (.alt 9 (.one 7 (.one 10 (.one 11 .done))) (.none))) (.alt 9 (.one 3 (.one 7 (.one 10 (.one 11 .done)))) (.none))) (.alt 9 (.alt 3 (.alt 7 (.one 8 (.one 10 (.one 11 .done))) (.alt 8 (.one 7 (.one 10 (.one 11 .done))) (.none))) (.alt 8 (.one 3 (.one 7 (.one 10 (.one 11 .done)))) (.none))) (.none))))))))), clOf [.read, .pure, .pure, .ext, .read, .pure, .pure, .loud, .ext, .ext, .loud, .loud]) else (.done, clOf [])
def ord47 : Nat → Ord × (Nat → Cls) := fun id => bif Nat.beq id 6 then (.one 0 (.one 1 (.one 2 (.one 3 (.one 4 (.one 5 (.one 6 (.one 7 (.one 8 .done)))))))), clOf [.pure, .pure, .pure, .read, .pure, .pure, .pure, .read, .pure]) else (.done, clOf [])
def ord56 : Nat → Ord × (Nat → Cls) := fun id => bif Nat.beq id 3 then (.one 0 (.one 1 (.one 2 (.one 3 (.one 4 (.alt 5 (.one 6 (.one 7 (.one 8 .done))) (.alt 7 (.one 5 (.one 6 (.one 8 .done))) (.none))))))), clOf [.read, .pure, .read, .pure, .read, .ext, .pure, .ext, .loud]) else (.done, clOf [])
abbrev ord57 := ordZ
abbrev ord58 := ordZ
abbrev ord59 := ordZ
abbrev ord60 := ordZ
abbrev ord61 := ordZ
abbrev ord62 := ordZ
abbrev ord63 := ordZ
abbrev ord64 := ordZ
abbrev ord65 := ordZ
def ord66 : Nat → Ord × (Nat → Cls) := fun id => bif Nat.beq id 2 then (.one 0 (.one 1 (.one 2 (.one 3 (.one 4 (.one 5 .done))))), clOf [.pure, .read, .pure, .read, .pure, .pure]) else (.done, clOf [])
def ord67 : Nat → Ord × (Nat → Cls) := fun id => bif Nat.beq id 2 then (.one 0 (.one 1 (.one 2 (.one 3 (.one 4 (.one 5 (.one 6 (.one 7 (.one 8 .done)))))))), clOf [.pure, .pure, .read, .pure, .read, .pure, .read, .loud, .pure]) else (.done, clOf [])
abbrev ord85 := ordZ
abbrev ord86 := ordZ
abbrev ord87 := ordZ
abbrev ord88 := ordZ
abbrev ord89 := ordZ
def ord90 : Nat → Ord × (Nat → Cls) := fun id => bif Nat.beq id 1 then (.one 0 (.one 1 (.one 2 (.one 3 (.one 4 (.one 5 (.one 6 (.one 7 (.one 8 (.one 9 (.one 10 (.one 11 (.one 12 .done)))))))))))), clOf [.pure, .pure, .pure, .read, .pure, .pure, .pure, .pure, .read, .pure, .read, .loud, .pure]) else (.done, clOf [])
def ord91 : Nat → Ord × (Nat → Cls) := fun id => bif Nat.beq id 1 then (.one 0 (.one 1 (.one 2 (.one 3 (.one 4 (.one 5 (.one 6 (.one 7 (.one 8 (.one 9 (.one 10 (.one 11 (.one 12 (.one 13 (.one 14 (.one 15 (.one 16 (.one 17 (.one 18 (.one 19 (.one 20 (.one 21 (.one 22 (.one 23 (.one 24 (.one 25 (.one 26 (.one 27 (.one 28 (.one 29 .done))))))))))))))))))))))))))))), clOf [.pure, .loud, .pure, .pure, .read, .pure, .pure, .pure, .pure, .read, .pure, .pure, .pure, .pure, .pure, .pure, .read, .pure, .pure, .pure, .pure, .read, .pure, .pure, .read, .pure, .read, .pure, .pure, .pure]) else (.done, clOf [])
abbrev ord92 := ordZ
def ord93 : Nat → Ord × (Nat → Cls) := fun id => bif Nat.beq id 7 then (.one 0 (.one 1 (.one 2 (.one 3 (.one 4 (.one 5 (.one 6 (.one 7 (.one 8 .done)))))))), clOf [.pure, .pure, .pure, .read, .pure, .pure, .pure, .read, .pure]) else bif Nat.beq id 8 then (.one 0 (.one 1 (.one 2 (.one 3 (.one 4 (.one 5 (.one 6 (.one 7 (.one 8 (.one 9 (.one 10 (.one 11 (.one 12 (.one 13 (.one 14 .done)))))))))))))), clOf [.pure, .pure, .pure, .pure, .pure, .read, .pure, .pure, .pure, .pure, .read, .pure, .ext, .loud, .pure]) else (.done, clOf [])
def ord94 : Nat → Ord × (Nat → Cls) := fun id => bif Nat.beq id 2 then (.one 0 (.one 1 (.one 2 (.one 3 (.one 4 (.one 5 (.one 6 (.one 7 (.one 8 (.one 9 (.one 10 (.one 11 (.one 12 (.one 13 (.one 14 (.one 15 (.one 16 (.one 17 (.one 18 (.one 19 (.one 20 (.one 21 (.one 22 (.one 23 (.one 24 (.one 25 (.one 26 (.one 27 (.one 28 (.one 29 .done))))))))))))))))))))))))))))), clOf [.pure, .pure, .pure, .pure, .read, .pure, .pure, .pure, .pure, .read, .pure, .pure, .pure, .pure, .read, .pure, .pure, .pure, .pure, .read, .pure, .read, .pure, .pure, .pure, .pure, .read, .pure, .pure, .loud]) else (.done, clOf [])
def ord95 : Nat → Ord × (Nat → Cls) := fun id => bif Nat.beq id 4 then (.one 0 (.one 1 (.one 2 (.one 3 (.one 4 (.one 5 (.one 6 (.one 7 (.one 8 (.one 9 (.one 10 (.one 11 (.one 12 (.one 13 (.one 14 (.one 15 (.one 16 (.one 17 .done))))))))))))))))), clOf [.pure, .pure, .pure, .pure, .read, .read, .ext, .loud, .pure, .pure, .read, .pure, .pure, .pure, .pure, .read, .pure, .pure]) else bif Nat.beq id 7 then (.one 0 (.one 1 (.one 2 (.one 3 (.one 4 (.one 5 (.one 6 (.one 7 (.one 8 (.one 9 (.one 10 (.one 11 (.one 12 (.one 13 (.one 14 (.one 15 .done))))))))))))))), clOf [.pure, .pure, .pure, .pure, .pure, .read, .pure, .pure, .pure, .pure, .read, .pure, .pure, .pure, .pure, .loud]) else (.done, clOf [])
def ord96 : Nat → Ord × (Nat → Cls) := fun id => bif Nat.beq id 4 then (.one 0 (.one 1 (.one 2 (.one 3 (.one 4 (.one 5 (.one 6 (.one 7 (.one 8 (.one 9 (.one 10 (.one 11 (.one 12 (.one 13 (.one 14 (.one 15 (.one 16 (.one 17 (.one 18 .done)))))))))))))))))), clOf [.pure, .pure, .pure, .read, .pure, .pure, .pure, .read, .pure, .pure, .pure, .pure, .read, .pure, .pure, .pure, .read, .pure, .pure]) else bif Nat.beq id 7 then (.one 0 (.one 1 (.one 2 (.one 3 (.one 4 (.one 5 (.one 6 (.one 7 (.one 8 (.one 9 (.one 10 (.one 11 (.one 12 (.one 13 .done))))))))))))), clOf [.pure, .pure, .pure, .pure, .read, .pure, .read, .pure, .read, .pure, .read, .pure, .pure, .loud]) else (.done, clOf [])
def ord97 : Nat → Ord × (Nat → Cls) := fun id => bif Nat.beq id 1 then (.one 0 (.one 1 (.one 2 (.one 3 (.one 4 (.one 5 (.one 6 (.one 7 (.one 8 (.one 9 (.one 10 (.one 11 (.one 12 (.one 13 (.one 14 (.one 15 (.one 16 (.one 17 (.one 18 (.one 19 (.one 20 (.one 21 .done))))))))))))))))))))), clOf [.pure, .pure, .pure, .read, .pure, .pure, .read, .pure, .pure, .pure, .pure, .read, .pure, .pure, .pure, .read, .loud, .pure, .pure, .pure, .pure, .pure]) else (.done, clOf [])
def ord98 : Nat → Ord × (Nat → Cls) := fun id => bif Nat.beq id 2 then (.one 0 (.one 1 (.one 2 (.one 3 (.one 4 (.one 5 (.one 6 (.one 7 (.one 8 (.one 9 (.one 10 (.one 11 (.one 12 (.one 13 (.one 14 (.one 15 .done))))))))))))))), clOf [.pure, .pure, .pure, .pure, .pure, .read, .pure, .pure, .pure, .pure, .read, .loud, .pure, .pure, .pure, .loud]) else (.done, clOf [])
abbrev ord99 := ordZ
abbrev ord101 := ordZ
abbrev ord103 := ordZ
def ord104 : Nat → Ord × (Nat → Cls) := fun id => bif Nat.beq id 1 then (.one 0 (.one 1 (.one 3 (.one 4 (.one 5 (.one 6 (.one 8 (.one 9 (.one 11 (.one 12 (.one 2 (.one 7 (.one 10 (.one 13 (.one 14 (.one 15 .done))))))))))))))), clOf [.pure, .read, .ext, .pure, .read, .pure, .read, .ext, .pure, .read, .ext, .pure, .read, .ext, .pure, .loud]) else (.done, clOf [])
def ord105 : Nat → Ord × (Nat → Cls) := fun id => bif Nat.beq id 19 then (.one 0 (.one 1 (.one 2 (.one 3 (.one 4 (.one 5 (.one 6 (.one 7 (.one 8 (.one 9 (.one 10 (.one 11 (.one 12 (.one 13 .done))))))))))))), clOf [.pure, .pure, .pure, .read, .pure, .read, .pure, .read, .pure, .read, .pure, .pure, .ext, .loud]) else (.done, clOf [])
abbrev ord106 := ordZ
abbrev ord107 := ordZ
def ord108 : Nat → Ord × (Nat → Cls) := fun id => bif Nat.beq id 4 then (.one 0 (.one 1 (.one 3 (.one 4 (.one 2 (.one 5 (.one 6 (.one 7 .done))))))), clOf [.read, .read, .ext, .read, .read, .loud, .loud, .pure]) else (.done, clOf [])
def ord125 : Nat → Ord × (Nat → Cls) := fun id => bif Nat.beq id 8 then (.one 0 (.one 1 (.one 3 (.one 4 (.one 5 (.one 6 (.one 7 (.one 8 (.one 9 (.one 11 (.one 12 (.one 13 (.one 15 (.one 2 (.one 10 (.one 14 (.one 16 (.one 17 (.one 18 (.one 19 .done))))))))))))))))))), clOf [.pure, .read, .ext, .pure, .pure, .read, .read, .pure, .pure, .read, .ext, .pure, .pure, .read, .ext, .read, .ext, .ext, .loud, .pure]) else bif Nat.beq id 14 then (.one 0 (.one 1 (.one 2 (.one 3 (.one 4 (.one 5 .done))))), clOf [.pure, .read, .pure, .pure, .read, .pure]) else bif Nat.beq id 16 then (.one 0 (.one 1 (.one 2 (.one 3 (.one 4 (.one 5 (.one 6 (.one 7 (.one 8 (.one 9 .done))))))))), clOf [.pure, .pure, .read, .pure, .pure, .read, .ext, .pure, .pure, .loud]) else (.done, clOf [])
abbrev ord126 := ordZ
def ord127 : Nat → Ord × (Nat → Cls) := fun id => bif Nat.beq id 8 then (.one 0 (.one 1 (.one 2 (.one 4 (.one 5 (.one 6 (.alt 3 (.one 7 (.one 8 (.one 9 (.one 10 .done)))) (.alt 7 (.one 3 (.one 8 (.one 9 (.one 10 .done)))) (.none)))))))), clOf [.pure, .pure, .read, .ext, .pure, .pure, .read, .ext, .loud, .loud, .pure]) else (.done, clOf [])
def ord128 : Nat → Ord × (Nat → Cls) := fun id => bif Nat.beq id 17 then (.one 0 (.one 1 (.one 2 (.one 3 (.one 4 .done)))), clOf [.pure, .read, .pure, .pure, .pure]) else (.done, clOf [])
abbrev ord129 := ordZ
def ord130 : Nat → Ord × (Nat → Cls) := fun id => bif Nat.beq id 6 then (.one 0 (.one 1 (.one 2 (.one 3 (.one 4 (.one 5 (.one 6 (.one 7 (.one 8 (.one 9 (.one 10 (.one 11 (.one 12 (.one 13 (.one 14 (.one 15 (.one 16 (.one 17 (.one 18 (.one 19 (.one 20 (.one 21 (.one 22 .done)))))))))))))))))))))), clOf [.pure, .read, .pure, .pure, .read, .pure, .loud, .pure, .pure, .pure, .read, .pure, .pure, .pure, .read, .pure, .read, .pure, .pure, .read, .pure, .pure, .pure]) else (.done, clOf [])
def ord131 : Nat → Ord × (Nat → Cls) := fun id => bif Nat.beq id 8 then (.one 0 (.one 1 (.one 2 (.one 3 (.one 4 (.one 5 (.one 6 (.one 7 (.one 8 (.one 9 (.one 10 (.one 11 (.one 12 (.one 13 (.alt 14 (.one 15 (.one 16 (.one 17 .done))) (.alt 15 (.one 14 (.one 16 (.one 17 .done))) (.none)))))))))))))))), clOf [.pure, .pure, .read, .pure, .read, .pure, .read, .pure, .pure, .read, .pure, .read, .pure, .read, .ext, .ext, .ext, .ext, .ext]) else bif Nat.beq id 9 then (.one 0 (.one 1 (.one 2 (.one 3 (.one 4 (.one 5 (.one 6 (.one 7 (.one 8 (.one 9 (.one 10 (.one 11 (.one 12 (.one 13 (.one 14 (.one 15 (.one 16 (.one 17 (.one 18 (.one 19 (.one 20 (.one 21 (.one 22 (.one 23 (.one 24 (.one 25 (.one 26 (.one 27 (.one 28 (.one 29 (.one 30 (.one 31 (.one 32 (.one 33 (.one 34 (.one 35 .done))))))))))))))))))))))))))))))))))), clOf [.pure, .read, .pure, .pure, .pure, .read, .pure, .pure, .pure, .pure, .read, .pure, .read, .pure, .loud, .pure, .pure, .pure, .pure, .read, .pure, .pure, .pure, .pure, .pure, .read, .pure, .read, .pure, .read, .pure, .read, .pure, .read, .pure, .pure]) else (.done, clOf [])
abbrev ord132 := ordZ
abbrev ord133 := ordZ
abbrev ord134 := ordZ
def ord135 : Nat → Ord × (Nat → Cls) := fun id => bif Nat.beq id 6 then (.one 0 (.one 1 (.one 2 (.one 3 (.one 4 (.one 5 (.one 6 (.one 7 (.one 8 (.one 9 .done))))))))), clOf [.pure, .pure, .read, .pure, .read, .pure, .read, .pure, .pure, .loud]) else (.done, clOf [])
def ord136 : Nat → Ord × (Nat → Cls) := fun id => bif Nat.beq id 7 then (.one 0 (.one 1 (.one 2 (.one 3 (.one 4 (.one 5 (.one 6 (.one 7 (.one 8 (.one 9 .done))))))))), clOf [.pure, .read, .pure, .pure, .pure, .read, .loud, .ext, .loud, .pure]) else (.done, clOf [])
abbrev ord137 := ordZ
abbrev ord138 := ordZ
abbrev ord139 := ordZ
abbrev ord140 := ordZ
abbrev ord152 := ordZ
abbrev ord153 := ordZ
abbrev ord154 := ordZ
abbrev ord155 := ordZ
abbrev ord156 := ordZ
abbrev ord157 := ordZ
abbrev ord158 := ordZ
abbrev ord159 := ordZ
abbrev ord160 := ordZ
abbrev ord161 := ordZ
abbrev ord163 := ordZ
abbrev ord164 := ordZ
def ord165 : Nat → Ord × (Nat → Cls) := fun id => bif Nat.beq id 11 then (.one 0 (.one 1 (.one 2 (.one 3 (.one 4 (.one 5 (.one 6 (.one 7 (.one 8 .done)))))))), clOf [.pure, .pure, .pure, .pure, .pure, .pure, .pure, .pure, .loud]) else bif Nat.beq id 15 then (.one 0 (.one 1 (.one 2 (.one 3 (.one 4 (.one 5 (.one 6 (.one 7 (.one 8 .done)))))))), clOf [.pure, .pure, .pure, .pure, .pure, .pure, .pure, .pure, .loud]) else (.done, clOf [])
abbrev ord166 := ordZ
abbrev ord167 := ordZ
abbrev ord173 := ordZ
abbrev ord174 := ordZ
abbrev ord175 := ordZ
abbrev ord176 := ordZ
abbrev ord177 := ordZ
abbrev ord178 := ordZ
abbrev ord179 := ordZ
abbrev ord180 := ordZ
def ord181 : Nat → Ord × (Nat → Cls) := fun id => bif Nat.beq id 9 then (.one 0 (.one 1 (.one 2 (.one 3 (.one 4 (.one 5 (.one 6 (.one 7 (.one 8 (.one 9 .done))))))))), clOf [.pure, .pure, .pure, .pure, .pure, .pure, .pure, .loud, .pure, .pure]) else (.done, clOf [])
abbrev ord182 := ordZ
abbrev ord183 := ordZ
abbrev ord184 := ordZ
abbrev ord185 := ordZ
abbrev ord186 := ordZ
abbrev ord187 := ordZ
abbrev ord188 := ordZ
abbrev ord189 := ordZ
abbrev ord190 := ordZ
abbrev ord191 := ordZ
def ord192 : Nat → Ord × (Nat → Cls) := fun id => bif Nat.beq id 4 then (.one 0 (.one 1 (.one 2 (.one 3 (.one 4 (.one 5 (.one 6 (.one 7 (.one 8 .done)))))))), clOf [.pure, .pure, .pure, .read, .pure, .pure, .pure, .read, .pure]) else (.done, clOf [])
abbrev ord193 := ordZ
abbrev ord194 := ordZ
def ord195 : Nat → Ord × (Nat → Cls) := fun id => bif Nat.beq id 10 then (.one 0 (.one 1 (.one 2 (.one 3 (.one 4 (.one 5 (.one 6 (.one 7 (.one 8 (.one 9 (.one 10 (.one 11 (.one 12 (.one 13 (.one 14 (.one 15 (.one 16 (.one 17 .done))))))))))))))))), clOf [.pure, .read, .pure, .read, .pure, .read, .pure, .pure, .read, .pure, .read, .ext, .loud, .pure, .pure, .pure, .pure, .pure]) else (.done, clOf [])
def ord196 : Nat → Ord × (Nat → Cls) := fun id => bif Nat.beq id 13 then (.one 0 (.one 1 (.one 2 (.one 3 (.one 4 (.one 5 (.one 6 (.one 7 (.one 8 (.one 9 (.one 10 .done)))))))))), clOf [.pure, .pure, .pure, .pure, .pure, .pure, .pure, .pure, .pure, .loud, .pure]) else (.done, clOf [])
abbrev ord197 := ordZ
abbrev ord203 := ordZ
def ord204 : Nat → Ord × (Nat → Cls) := fun id => bif Nat.beq id 1 then (.one 0 (.one 1 (.one 2 (.one 3 (.one 4 (.one 5 (.one 6 (.one 7 (.one 8 (.one 9 (.one 10 (.one 11 (.one 12 (.one 13 (.one 14 (.one 15 (.one 16 (.one 17 (.one 18 (.one 19 (.one 20 (.one 21 (.one 22 (.one 23 (.one 24 (.one 25 (.one 26 (.one 27 (.one 28 (.one 29 (.one 30 (.one 31 (.one 32 (.one 33 (.one 34 (.one 35 (.one 36 .done)))))))))))))))))))))))))))))))))))), clOf [.pure, .read, .loud, .pure, .pure, .pure, .read, .pure, .read, .pure, .pure, .loud, .pure, .pure, .pure, .pure, .read, .pure, .read, .pure, .read, .pure, .read, .pure, .pure, .pure, .pure, .pure, .read, .pure, .pure, .pure, .pure, .read, .loud, .pure, .pure]) else bif Nat.beq id 3 then (.one 0 (.one 2 (.one 3 (.one 1 (.one 4 (.one 5 (.one 6 (.one 7 (.one 8 (.one 9 .done))))))))), clOf [.read, .ext, .pure, .read, .read, .pure, .pure, .pure, .pure, .pure]) else (.done, clOf [])
abbrev ord205 := ordZ
def ord206 : Nat → Ord × (Nat → Cls) := fun id => bif Nat.beq id 7 then (.one 0 (.one 1 (.one 2 (.one 3 (.one 4 (.one 5 (.one 6 (.one 7 (.one 8 (.one 9 (.one 10 (.one 11 (.one 12 (.one 13 (.one 14 (.one 15 (.one 16 (.one 17 (.one 18 (.one 19 (.one 20 (.one 21 (.one 22 (.one 23 (.one 24 .done)))))))))))))))))))))))), clOf [.read, .read, .loud, .pure, .pure, .pure, .read, .loud, .read, .pure, .pure, .pure, .pure, .pure, .pure, .read, .pure, .pure, .pure, .read, .read, .loud, .pure, .pure, .pure]) else (.done, clOf [])
def ord207 : Nat → Ord × (Nat → Cls) := fun id => bif Nat.beq id 5 then (.one 0 (.one 1 (.one 2 (.one 3 (.one 4 (.one 5 (.one 6 (.one 7 (.one 8 (.one 9 (.one 10 (.one 11 (.one 12 .done)))))))))))), clOf [.pure, .read, .pure, .pure, .read, .pure, .read, .loud, .pure, .pure, .pure, .pure, .pure]) else bif Nat.beq id 6 then (.one 0 (.one 2 (.one 3 (.one 4 (.one 5 (.one 6 (.one 7 (.one 8 (.one 9 (.alt 1 (.one 10 (.one 11 (.one 12 (.one 13 (.one 14 .done))))) (.alt 10 (.alt 1 (.one 11 (.one 12 (.one 13 (.one 14 .done)))) (.alt 11 (.one 1 (.one 12 (.one 13 (.one 14 .done)))) (.none))) (.none))))))))))), clOf [.pure, .ext, .pure, .read, .pure, .pure, .read, .pure, .pure, .read, .ext, .loud, .pure, .pure, .loud]) else (.done, clOf [])
abbrev ord208 := ordZ
def ord209 : Nat → Ord × (Nat → Cls) := fun id => bif Nat.beq id 1 then (.one 0 (.one 2 (.alt 1 (.one 4 (.one 5 (.alt 3 (.one 6 (.one 7 (.one 8 (.one 9 .done)))) (.alt 6 (.one 3 (.one 7 (.one 8 (.one 9 .done)))) (.none))))) (.alt 3 (.one 1 (.one 4 (.one 5 (.one 6 (.one 7 (.one 8 (.one 9 .done))))))) (.none)))), clOf [.pure, .loud, .pure, .loud, .pure, .pure, .loud, .pure, .pure, .loud]) else (.done, clOf [])
def ord210 : Nat → Ord × (Nat → Cls) := fun id => bif Nat.beq id 4 then (.one 0 (.one 1 (.one 2 (.one 3 (.one 4 (.one 6 (.one 7 (.one 8 (.one 9 (.one 10 (.one 5 (.one 11 (.one 12 (.one 13 (.one 14 .done)))))))))))))), clOf [.pure, .read, .pure, .pure, .read, .ext, .pure, .read, .pure, .pure, .read, .loud, .ext, .loud, .pure]) else bif Nat.beq id 5 then (.one 0 (.one 1 (.one 2 (.one 3 (.one 4 (.one 5 (.one 6 (.one 7 (.one 8 .done)))))))), clOf [.pure, .read, .pure, .pure, .read, .pure, .read, .pure, .loud]) else (.done, clOf [])
abbrev ord211 := ordZ
abbrev ord212 := ordZ
abbrev ord213 := ordZ
abbrev ord218 := ordZ
abbrev ord219 := ordZ
abbrev ord220 := ordZ
abbrev ord221 := ordZ
abbrev ord222 := ordZ
abbrev ord223 := ordZ
def ord224 : Nat → Ord × (Nat → Cls) := fun id => bif Nat.beq id 1 then (.one 0 (.one 1 (.one 2 (.one 3 (.one 4 (.one 5 (.one 6 (.one 7 (.one 8 (.one 9 (.one 10 (.one 11 (.one 12 (.one 13 (.one 14 (.one 15 (.one 16 (.one 17 (.one 18 (.one 19 (.one 20 (.one 21 (.one 22 (.one 23 (.one 24 (.one 25 (.one 26 (.one 27 (.one 28 (.one 29 (.one 30 (.one 31 (.one 32 (.one 33 (.one 34 (.one 35 (.one 36 (.one 37 (.one 38 (.one 39 (.one 40 (.one 41 .done))))))))))))))))))))))))))))))))))))))))), clOf [.pure, .read, .pure, .pure, .pure, .read, .pure, .pure, .pure, .pure, .pure, .read, .pure, .read, .pure, .read, .pure, .read, .pure, .pure, .pure, .pure, .read, .pure, .read, .pure, .pure, .pure, .pure, .pure, .read, .pure, .read, .pure, .read, .pure, .read, .pure, .read, .pure, .pure, .pure]) else (.done, clOf [])
def ord225 : Nat → Ord × (Nat → Cls) := fun id => bif Nat.beq id 6 then (.one 0 (.one 1 (.one 2 (.one 3 (.one 4 (.one 5 (.one 6 (.one 7 (.one 8 .done)))))))), clOf [.pure, .pure, .pure, .read, .pure, .pure, .pure, .read, .pure]) else (.done, clOf [])
abbrev ord226 := ordZ
abbrev ord227 := ordZ
abbrev ord228 := ordZ
abbrev ord229 := ordZ
abbrev ord230 := ordZ
abbrev ord231 := ordZ
def ord233 : Nat → Ord × (Nat → Cls) := fun id => bif Nat.beq id 6 then (.one 0 (.one 1 (.one 2 (.one 3 (.one 4 (.one 5 (.one 6 (.one 7 (.one 8 (.one 9 .done))))))))), clOf [.pure, .pure, .pure, .read, .pure, .pure, .pure, .pure, .read, .pure]) else bif Nat.beq id 11 then (.one 0 (.one 1 (.one 2 (.one 3 (.one 4 (.one 5 (.one 6 (.one 7 (.one 8 (.one 9 .done))))))))), clOf [.pure, .pure, .pure, .read, .pure, .pure, .pure, .pure, .read, .pure]) else (.done, clOf [])
abbrev ord234 := ordZ
abbrev ord241 := ordZ
abbrev ord242 := ordZ
abbrev ord243 := ordZ
def ord244 : Nat → Ord × (Nat → Cls) := fun id => bif Nat.beq id 3 then (.one 0 (.one 1 (.one 2 (.one 3 (.one 4 (.one 5 (.one 6 (.one 7 .done))))))), clOf [.pure, .pure, .read, .pure, .pure, .read, .pure, .pure]) else (.done, clOf [])
abbrev ord245 := ordZ
def ord246 : Nat → Ord × (Nat → Cls) := fun id => bif Nat.beq id 1 then (.one 0 (.one 1 (.one 2 (.one 3 (.one 5 (.one 6 (.one 7 (.one 8 (.one 10 (.one 11 (.one 12 (.one 13 (.one 4 (.one 9 (.one 14 (.one 15 (.one 16 (.one 17 .done))))))))))))))))), clOf [.pure, .read, .pure, .read, .ext, .pure, .read, .pure, .read, .ext, .pure, .read, .pure, .read, .loud, .ext, .loud, .pure]) else (.done, clOf [])
abbrev ord247 := ordZ
def ord248 : Nat → Ord × (Nat → Cls) := fun id => bif Nat.beq id 1 then (.one 0 (.one 2 (.one 3 (.one 1 (.one 4 (.one 5 (.one 6 .done)))))), clOf [.read, .ext, .pure, .read, .loud, .pure, .pure]) else (.done, clOf [])
def ord249 : Nat → Ord × (Nat → Cls) := fun id => bif Nat.beq id 5 then (.one 0 (.one 1 (.one 2 (.one 3 (.one 4 (.one 5 (.one 6 (.one 7 .done))))))), clOf [.pure, .pure, .pure, .pure, .read, .read, .loud, .pure]) else bif Nat.beq id 8 then (.one 0 (.one 1 (.one 2 (.one 3 (.one 4 (.one 5 (.one 6 (.one 7 (.one 8 (.one 9 (.one 10 (.one 11 (.one 12 (.one 13 (.one 14 (.one 15 .done))))))))))))))), clOf [.pure, .pure, .pure, .pure, .pure, .pure, .pure, .pure, .pure, .read, .read, .loud, .pure, .pure, .pure, .pure]) else (.done, clOf [])
def ord250 : Nat → Ord × (Nat → Cls) := fun id => bif Nat.beq id 11 then (.one 0 (.one 1 (.one 2 (.one 3 (.one 4 (.one 5 (.one 6 (.one 7 (.one 8 .done)))))))), clOf [.pure, .pure, .pure, .pure, .pure, .pure, .pure, .pure, .loud]) else bif Nat.beq id 15 then (.one 0 (.one 1 (.one 2 (.one 3 (.one 4 (.one 5 (.one 6 (.one 7 (.one 8 .done)))))))), clOf [.pure, .pure, .pure, .pure, .pure, .pure, .pure, .pure, .loud]) else (.done, clOf [])
def ord251 : Nat → Ord × (Nat → Cls) := fun id => bif Nat.beq id 1 then (.one 0 (.one 2 (.one 3 (.one 4 (.one 5 (.one 6 (.one 7 (.alt 1 (.one 8 (.one 9 (.one 10 (.one 11 .done)))) (.alt 8 (.one 1 (.one 9 (.one 10 (.one 11 .done)))) (.none))))))))), clOf [.pure, .ext, .pure, .read, .pure, .pure, .read, .pure, .loud, .pure, .pure, .loud]) else (.done, clOf [])
abbrev ord252 := ordZ
abbrev ord253 := ordZ
abbrev ord257 := ordZ
abbrev ord258 := ordZ
abbrev ord260 := ordZ
abbrev ord261 := ordZ
abbrev ord262 := ordZ
abbrev ord266 := ordZ
abbrev ord267 := ordZ
abbrev ord268 := ordZ
abbrev ord269 := ordZ
abbrev ord272 := ordZ
def ord273 : Nat → Ord × (Nat → Cls) := fun id => bif Nat.beq id 1 then (.one 0 (.one 1 (.one 2 (.one 3 (.one 4 (.one 5 (.one 6 .done)))))), clOf [.pure, .pure, .read, .read, .ext, .loud, .pure]) else (.done, clOf [])
abbrev ord280 := ordZ
def ord281 : Nat → Ord × (Nat → Cls) := fun id => bif Nat.beq id 11 then (.one 0 (.one 1 (.one 2 (.one 3 (.one 4 .done)))), clOf [.read, .pure, .pure, .pure, .read]) else (.done, clOf [])
abbrev ord282 := ordZ
abbrev ord283 := ordZ
abbrev ord284 := ordZ
abbrev ord285 := ordZ
abbrev ord286 := ordZ
abbrev ord287 := ordZ
abbrev ord288 := ordZ
abbrev ord289 := ordZ
abbrev ord302 := ordZ
abbrev ord303 := ordZ
abbrev ord304 := ordZ
abbrev ord305 := ordZ
abbrev ord314 := ordZ
abbrev ord315 := ordZ
end Go.Proofs.YtmjllbjfkafhdaaGreatDoor
namespace Go.CF
open Go
theorem xA {p X Y : Prop} (hx : X) (h : p := by first|assumption|omega|rfl) : Bd p X Y := .t h hx
theorem xB {p X Y : Prop} (hy : Y) (h : ¬ p := by first|assumption|omega|exact Bool.false_ne_true) : Bd p X Y := .f h hy
theorem xN {α : Type} {l l' : List α} {k : List α → Prop} (hk : k l') (h : LN l l' := by repeat constructor) : Nm l k := .r h hk
theorem xT {o rest : List Res} {b : Nat} {k : TypeId → List AV → List Res → Prop} {T : TypeId} {cs : List AV} (hk : k T cs rest) (h : Take o (blkR b T cs) rest := by repeat constructor) : TkB o b k := .r h hk
theorem xU {α : Type} {o rest : List Res} {v : Value} {k : ∀ {α : Type}, TypeId → Nat → List α → (α → List AV) → List Res → Prop} {T : TypeId} {sz : Nat} {l : List α} {f : α → List AV} (hk : k T sz l f rest) (h : Take o (arrR v T sz l f) rest := by repeat constructor) : TkA o v k := .r h hk
theorem xM {β : Type} {P : Program} {o rest : List Res} {b : Nat} {k : ∀ {β : Type}, TypeId → List (List Int × β) → (β → AV) → List Res → Prop} {kt : TypeId} {kvs : List (List Int × β)} {f : β → AV} (hk : k kt kvs f rest) (h : Take o (mapR P b kt kvs f) rest := by repeat constructor) : TkM P o b k := .r h hk
theorem xV {l : List AV} {k : Nat} {v : AV} {M : List AV → Prop} {l' : List AV} (hm : M l') (h : SetA l k v l' := by repeat first|assumption|constructor) : SetAk l k v M := .r h hm
theorem xO {i : Int} {M : Int → Prop} (hm : M i) (h : -9223372036854775808 ≤ i ∧ i ≤ 9223372036854775807 := by first|omega|(simp <;> omega)) : Ov i M := .n h hm
theorem xI {α : Type} {l : List α} {i : Int} {k : Nat → α → Prop} {j : Nat} {x : α} (hk : k j x) (hi : i = (j : Int) := by exact rfl) (h : l[j]? = some x := by assumption) : Ix l i k := .q hi h hk
theorem xJ {α : Type} {l : List α} {k : α → Prop} {j : Nat} {x : α} (hk : k x) (h : l[j]? = some x := by assumption) : At l j k := .r h hk
theorem xP {p k : Prop} (hk : k) (h : p := by first|omega|(simp <;> omega)) : Om p k := ⟨h, hk⟩
theorem xK {cs : List AV} {M : List Int → Prop} {xs : List Int} (hm : M xs) (h : ILit cs xs := by repeat (first|apply ILit.cons|exact ILit.nil)) : Il cs M := .r h hm
section
variable {Γ : Cx} {k : List KI} {e : EA} {o : List Res} {ops : Array Oper} {c : Cls}
theorem xD {i : Nat} {t : Ord} (h : RA' Γ k ops (Γ.T i).2 t e o) (_hx : isLoud ((Γ.T i).2 ops.size) = true := by rfl) (hn : Region.noSelect ops = true := by kernel_rfl) (hc : chk ops (Γ.T i).2 (Γ.T i).1 ops.size true (Array.replicate ops.size false) = true := by kernel_rfl) (ho : ON (Γ.T i).1 t := by repeat' constructor) (hd : (ops.toList.all fun op => dOK Γ.n op.dst) = true := by rfl) : CA Γ k (.region i ops true) e o := .draw _hx hn hc ho hd h
theorem xQ {f : FuncId} {as' : List AV} {r : AV} (hc : CallP Γ.P f as' r) {xs : List AV} {M : AV → List Res → Prop} (hm : M r o) (hv : Lend [] xs as' := by repeat' (first|exact Lend.nil|apply Lend.keep)) : Cl Γ c f xs o M := .p hc hv hm
theorem xW {f : FuncId} {xs as' : List AV} {own rest : List Res} {K : AV → List Res → Prop} {M : AV → List Res → Prop} (hc : CallA Γ.P f as' own K) (hm : ∀ r own', K r own' → M r (own' ++ rest)) (hv : Lend [] xs as' := by repeat' (first|exact Lend.nil|apply Lend.keep)) (ht : Takes o own rest := by repeat (first|exact Takes.nil|(apply Takes.cons;(focus repeat constructor)))) (hl : (isLoud c || own.isEmpty) = true := by rfl) : Cl Γ c f xs o M := .use hc hv ht hl hm
end
theorem xE {e : EA} {o : List Res} {σ : AS} (h1 : subA' e σ.env := by repeat first|trivial|refine ⟨rfl,?_⟩) (h2 : Subl o σ.own := by repeat first|exact .nil|refine .cons (by repeat constructor) ?_) : Sub e o σ := ⟨h1, h2⟩
theorem FL.z {o own : List Res} (h : Subl o own := by repeat first|exact .nil|refine .cons (by repeat constructor) ?_) : FL o [] [] own := .nil h
end Go.CF
namespace Go.Proofs.YtmjllbjfkafhdaaGreatDoor
open Go Go.CF
set_option maxRecDepth 20000
def intC (x : Int) : List AV := [.val (.int .i64 x)]
abbrev ints (l : List Int) : AV := .sl 1 l intC
theorem vb {a b : Bool} (h : a = b) : AV.val (.bool a) = AV.val (.bool b) := by rw [h]
theorem all_succ {α : Type} {l : List α} {i : Nat} {x : α} {P : α → Prop} (h : l[i]? = some x) (ha : ∀ y ∈ l.take i, P y) (hx : P x) : ∀ y ∈ l.take (i + 1), P y := fun y hy => by
 rw [List.take_add_one, h] at hy
 rcases List.mem_append.1 hy with h1|h1
 ·exact ha y h1
 ·simp at h1;exact h1 ▸ hx
theorem get_of {α : Type} {l : List α} {i : Nat} (h : i < l.length) : ∃ x, l[i]? = some x := ⟨_, List.getElem?_eq_getElem h⟩
theorem equal_p (a b : List Int) : CallP Tryz.prog 19 [ints a, ints b] (.val (.bool (decide (a = b)))) := by
 refine CallA.of pg ord19 Tryz.func19 rfl Tryz.ntmps19 Tryz.results19 rfl fun h0 G0 O0 => ?_
 repeat' (first|refine Sp.h ?_|refine Lk.r rfl ?_|refine Rf.mk rfl ?_|(refine Bd.mk ?_ ?_ <;> intro _)|refine Im.mk fun _=>?_|refine xN ?_|fail)
 ·rename_i ha hb hab _
  refine CA.loop (fun i : Nat => ⟨[(0, ints a), (1, ints b), (12, .val (.int .i64 a.length)), (13, .val (.int .i64 i))], []⟩) (fun i => i ≤ a.length ∧ a.take i = b.take i) (fun i => a.length - i) 0 xE ⟨Nat.zero_le _, by simp⟩ ?_
  rintro i ⟨hi, heq⟩
  by_cases hin : i < a.length
  ·obtain ⟨x, hx⟩ : ∃ x, a[i]? = some x := ⟨_, List.getElem?_eq_getElem hin⟩
   obtain ⟨y, hy⟩ : ∃ y, b[i]? = some y := ⟨_, List.getElem?_eq_getElem (by omega)⟩
   repeat' (first|refine Sp.h ?_|refine Lk.r rfl ?_|refine Rf.mk rfl ?_|refine xA ?_|(refine Bd.mk ?_ ?_ <;> intro _)|refine OpK.r rfl ?_|refine xI ?_|refine xN ?_|refine xD ?_|refine xO ?_|fail)
   ·rename_i hxy
    refine PA.lp (i + 1) xE ⟨⟨hin, ?_⟩, by omega⟩
    rw [List.take_add_one, List.take_add_one, hx, hy, heq, show x = y by omega]
   ·rename_i hxy
    refine Fin.p rfl ?_
    rw [decide_eq_false (fun e => hxy ?_)]
    subst e;rw [hx] at hy;cases hy;rfl
  ·have : i = a.length := by omega
   subst this
   repeat' (first|refine Sp.h ?_|refine Lk.r rfl ?_|refine Rf.mk rfl ?_|refine xB ?_|refine xN ?_|fail)
   refine Fin.p rfl ?_
   rw [List.take_length] at heq
   rw [decide_eq_true (by rw [heq, List.take_of_length_le (by omega)])]
 ·rename_i h
  refine Fin.p rfl ?_
  rw [decide_eq_false (fun e => h (by rw [e]))]
/-! ### Valid -/
def rngK (x : Int) : Prop := 0 ≤ x ∧ x ≤ 1024
def ValC (c : List Int) : Prop := (∀ x ∈ c, rngK x) ∧ 1 ≤ c.length ∧ c.length ≤ 5
noncomputable instance (c : List Int) : Decidable (ValC c) := Classical.propDecidable _
theorem validC_p (c : List Int) : CallP Tryz.prog 61 [ints c] (.val (.bool (decide (ValC c)))) := by
 refine CallA.of pg ord61 Tryz.func61 rfl Tryz.ntmps61 Tryz.results61 rfl fun h0 G0 O0 => ?_
 repeat' (first|refine Sp.h ?_|refine Lk.r rfl ?_|refine Rf.mk rfl ?_|refine Im.mk fun _=>?_|fail)
 refine CA.loop (fun i : Nat => ⟨[(0, ints c), (5, ints c), (6, .val (.int .i64 c.length)), (7, .val (.int .i64 i))], []⟩) (fun i => i ≤ c.length ∧ ∀ x ∈ c.take i, rngK x) (fun i => c.length - i) 0 xE ⟨Nat.zero_le _, by simp⟩ ?_
 rintro i ⟨hi, ha⟩
 by_cases hin : i < c.length
 ·obtain ⟨x, hx⟩ := get_of hin
  repeat' (first|refine Sp.h ?_|refine Lk.r rfl ?_|refine Rf.mk rfl ?_|refine xA ?_|refine xB ?_|(refine Bd.mk ?_ ?_ <;> intro _)|refine xI ?_|refine xN ?_|refine xO ?_|fail)
  all_goals first
   | exact PA.lp (i + 1) xE ⟨⟨hin, all_succ hx ha ⟨by omega, by omega⟩⟩, by omega⟩
   | exact Fin.p rfl (vb (decide_eq_false (fun h => by have h1 := h.1 x (List.mem_of_getElem? hx);unfold rngK at h1;omega)).symm)
 ·have : i = c.length := by omega
  subst this
  rw [List.take_length] at ha
  repeat' (first|refine Sp.h ?_|refine Lk.r rfl ?_|refine Rf.mk rfl ?_|refine xA ?_|refine xB ?_|(refine Bd.mk ?_ ?_ <;> intro _)|refine Im.mk fun _=>?_|refine xN ?_|fail)
  all_goals exact Fin.p rfl (vb (by first|exact (decide_eq_false (fun h => by have := h.2;omega)).symm|exact decide_eq_decide.2 ⟨fun h => ⟨ha, by omega, by omega⟩, fun h => by have := h.2;omega⟩))
def HasC (c : List Int) (r n : Int) : Prop := ValC c ∧ 0 ≤ r ∧ 1 ≤ n ∧ ∃ x, c[r.toNat]? = some x ∧ n ≤ x
noncomputable instance (c : List Int) (r n : Int) : Decidable (HasC c r n) := Classical.propDecidable _
abbrev dotC (r n : Int) : AV := .agg [.val (.int .i64 r), .val (.int .i64 n)]
theorem hasC_p (c : List Int) (r n : Int) : CallP Tryz.prog 91 [ints c, dotC r n] (.val (.bool (decide (HasC c r n)))) := by
 refine CallA.of pg ord91 Tryz.func91 rfl Tryz.ntmps91 Tryz.results91 rfl fun h0 G0 O0 => ?_
 by_cases hr : 0 ≤ r ∧ r < c.length
 ·obtain ⟨x, hx⟩ := get_of (l := c) (i := r.toNat) (by omega)
  repeat' (first|refine Sp.h ?_|refine Lk.r rfl ?_|refine Rf.mk rfl ?_|refine OpK.r rfl ?_|refine All.mk fun _=>?_|refine xD ?_|fail)
  refine xQ (validC_p _) ?_
  repeat' (first|refine Sp.h ?_|refine Lk.r rfl ?_|refine Rf.mk rfl ?_|refine xA ?_|refine xB ?_|(refine Bd.mk ?_ ?_ <;> intro _)|refine OpK.r rfl ?_|refine Im.mk fun _=>?_|refine xT ?_|(apply Ix.r;(focus assumption);(focus omega))|refine xN ?_|fail)
  all_goals refine Fin.p rfl (vb ?_)
  all_goals first
   | exact decide_eq_decide.2 ⟨fun h => ⟨by assumption, hr.1, by assumption, x, hx, h⟩, fun ⟨_, _, _, y, hy, h⟩ => by rw [hx] at hy;cases hy;exact h⟩
   | exact (decide_eq_false (fun ⟨_, _, _, y, hy, _⟩ => by have := (List.getElem?_eq_some_iff.1 hy).1;first|contradiction|omega)).symm
 ·repeat' (first|refine Sp.h ?_|refine Lk.r rfl ?_|refine Rf.mk rfl ?_|refine OpK.r rfl ?_|refine All.mk fun _=>?_|refine xD ?_|fail)
  refine xQ (validC_p _) ?_
  repeat' (first|refine Sp.h ?_|refine Lk.r rfl ?_|refine Rf.mk rfl ?_|refine xA ?_|refine xB ?_|(refine Bd.mk ?_ ?_ <;> intro _)|refine OpK.r rfl ?_|refine Im.mk fun _=>?_|refine xT ?_|refine xN ?_|fail)
  all_goals refine Fin.p rfl (vb ?_)
  all_goals exact (decide_eq_false (fun ⟨_, _, _, y, hy, _⟩ => by have := (List.getElem?_eq_some_iff.1 hy).1;first|contradiction|omega)).symm
/-! ### alike, inside -/
def clkC (c : List Int) : List AV := [ints c]
abbrev clks (l : List (List Int)) : AV := .sl 1 l clkC
def AlikeC (l : List (List Int)) : Prop := 0 < l.length ∧ ∀ c ∈ l, ValC c ∧ c.length = (l[0]?.getD []).length
noncomputable instance (l : List (List Int)) : Decidable (AlikeC l) := Classical.propDecidable _
theorem alike_p (l : List (List Int)) : CallP Tryz.prog 156 [clks l] (.val (.bool (decide (AlikeC l)))) := by
 refine CallA.of pg ord156 Tryz.func156 rfl Tryz.ntmps156 Tryz.results156 rfl fun h0 G0 O0 => ?_
 repeat' (first|refine Sp.h ?_|refine Lk.r rfl ?_|refine Rf.mk rfl ?_|refine Im.mk fun _=>?_|fail)
 refine CA.loop (fun i : Nat => ⟨[(0, clks l), (5, clks l), (6, .val (.int .i64 l.length)), (7, .val (.int .i64 i))], []⟩) (fun i => i ≤ l.length ∧ ∀ c ∈ l.take i, ValC c ∧ c.length = (l[0]?.getD []).length) (fun i => l.length - i) 0 xE ⟨Nat.zero_le _, by simp⟩ ?_
 rintro i ⟨hi, ha⟩
 by_cases hin : i < l.length
 ·obtain ⟨c, hc⟩ := get_of hin
  obtain ⟨b, hb⟩ := get_of (l := l) (i := 0) (by omega)
  have hbb : (l[0]?.getD []).length = b.length := by rw [hb];rfl
  repeat' (first|refine Sp.h ?_|refine Lk.r rfl ?_|refine Rf.mk rfl ?_|refine xA ?_|refine xI ?_|fail)
  refine xQ (validC_p _) ?_
  repeat' (first|refine Sp.h ?_|refine Lk.r rfl ?_|refine Rf.mk rfl ?_|refine xA ?_|refine xB ?_|(refine Bd.mk ?_ ?_ <;> intro _)|refine Im.mk fun _=>?_|refine xI ?_|refine xN ?_|refine xO ?_|fail)
  all_goals first
   | exact Fin.p rfl (vb (decide_eq_false (fun h => by have h1 := h.2 c (List.mem_of_getElem? hc);first|exact absurd h1.1 (by assumption)|omega)).symm)
   | exact PA.lp (i + 1) xE ⟨⟨hin, all_succ hc ha ⟨by assumption, by omega⟩⟩, by omega⟩
 ·have : i = l.length := by omega
  subst this
  rw [List.take_length] at ha
  repeat' (first|refine Sp.h ?_|refine Lk.r rfl ?_|refine Rf.mk rfl ?_|refine xB ?_|refine Im.mk fun _=>?_|refine xN ?_|fail)
  exact Fin.p rfl (vb (decide_eq_decide.2 ⟨fun h => ⟨by omega, ha⟩, fun h => by have := h.1;omega⟩))
abbrev CallO (P : Program) (f : FuncId) (args : List AV) {α : Type} (T : TypeId) (sz : Nat) (l : List α) (g : α → List AV) : Prop := CallA P f args [] fun r own => ∃ v, r = .ow v ∧ own = [arrR v T sz l g]
theorem clone_o (l : List Int) (hl : l.length ≤ 1000000000) : CallO Tryz.prog 40 [ints l] 3 1 l intC := by
 refine CallA.of pg ord40 Tryz.func40 rfl Tryz.ntmps40 Tryz.results40 rfl fun h0 G0 O0 => ?_
 repeat' (first|refine Sp.h ?_|refine Lk.r rfl ?_|refine Rf.mk rfl ?_|(refine Bd.mk ?_ ?_ <;> intro _)|refine xP ?_|refine Im.mk fun _=>?_|refine All.mk fun _=>?_|refine xU ?_|refine Ce.l rfl ?_|(apply Fk.r;focus repeat' first|infer_instance|constructor)|refine xN ?_|refine Rf.mk ⟨rfl, rfl⟩ ?_|refine Rf.mk ⟨rfl, rfl, rfl⟩ ?_|refine Mp.same ?_|fail)
 ·rename_i b hb hbt
  have hl0 : l = [] := Decidable.byContradiction fun h => by rw [hb h] at hbt;cases hbt
  subst hl0
  exact ⟨_, _, .one (.nils (.z)), _, rfl, rfl⟩
 ·repeat' (first|fail)
  exact ⟨_, _, .one (.same (.z)), _, rfl, rfl⟩
def Ins (a b : List Int) : Prop := ∀ (i : Nat) (x y : Int), a[i]? = some x → b[i]? = some y → x ≤ y
noncomputable instance (a b : List Int) : Decidable (Ins a b) := Classical.propDecidable _
theorem inside_p (a b : List Int) (hab : a.length ≤ b.length) : CallP Tryz.prog 192 [ints a, ints b] (.val (.bool (decide (Ins a b)))) := by
 refine CallA.of pg ord192 Tryz.func192 rfl Tryz.ntmps192 Tryz.results192 rfl fun h0 G0 O0 => ?_
 repeat' (first|refine Sp.h ?_|refine Lk.r rfl ?_|refine Rf.mk rfl ?_|refine Im.mk fun _=>?_|fail)
 refine CA.loop (fun i : Nat => ⟨[(0, ints a), (1, ints b), (7, .val (.int .i64 a.length)), (8, .val (.int .i64 i))], []⟩) (fun i => i ≤ a.length ∧ ∀ j x y, j < i → a[j]? = some x → b[j]? = some y → x ≤ y) (fun i => a.length - i) 0 xE ⟨Nat.zero_le _, fun j x y h => by omega⟩ ?_
 rintro i ⟨hi, ha⟩
 by_cases hin : i < a.length
 ·obtain ⟨x, hx⟩ := get_of hin
  obtain ⟨y, hy⟩ := get_of (l := b) (i := i) (by omega)
  repeat' (first|refine Sp.h ?_|refine Lk.r rfl ?_|refine Rf.mk rfl ?_|refine xA ?_|(refine Bd.mk ?_ ?_ <;> intro _)|refine OpK.r rfl ?_|refine xI ?_|refine xN ?_|refine xD ?_|refine xO ?_|fail)
  ·rename_i hxy
   exact Fin.p rfl (vb (decide_eq_false (fun h => by have := h i x y hx hy;omega)).symm)
  ·rename_i hxy
   refine PA.lp (i + 1) xE ⟨⟨hin, fun j x' y' hj h1 h2 => ?_⟩, by omega⟩
   by_cases e : j = i
   ·subst e;rw [hx] at h1;rw [hy] at h2;cases h1;cases h2;omega
   ·exact ha j x' y' (by omega) h1 h2
 ·have : i = a.length := by omega
  subst this
  repeat' (first|refine Sp.h ?_|refine Lk.r rfl ?_|refine Rf.mk rfl ?_|refine xB ?_|refine xN ?_|fail)
  exact Fin.p rfl (vb (decide_eq_true (p := Ins a b) (fun j x y h1 h2 => ha j x y (List.getElem?_eq_some_iff.1 h1).1 h1 h2)).symm)
end Go.Proofs.YtmjllbjfkafhdaaGreatDoor
namespace Go.Proofs.YtmjllbjfkafhdaaGreatDoor
open Go Go.CF
set_option maxRecDepth 20000
theorem alike2 (a b : List Int) : AlikeC [a, b] ↔ ValC a ∧ ValC b ∧ a.length = b.length := by
 unfold AlikeC
 simp
 intro _ _
 exact eq_comm
/-! ### Missing -/
def spanC (s : Int × Int × Int) : List AV := [.val (.int .i64 s.1), .val (.int .i64 s.2.1), .val (.int .i64 s.2.2)]
instance {p q r : Int} : Inv spanC [.val (.int .i64 p), .val (.int .i64 q), .val (.int .i64 r)] (p, q, r) := ⟨rfl⟩
theorem missing_o (a b : List Int) : CallA Tryz.prog 93 [ints a, ints b] [] fun r own => ∃ v l, r = .ow v ∧ own = [arrR v 216 3 l spanC] ∧ (l = [] ↔ (AlikeC [a, b] → Ins b a)) ∧ l.length ≤ 5 := by
 refine CallA.of pg ord93 Tryz.func93 rfl Tryz.ntmps93 Tryz.results93 rfl fun h0 G0 O0 => ?_
 repeat' (first|refine Sp.h ?_|refine Lk.r rfl ?_|refine Rf.mk rfl ?_|refine All.mk fun _=>?_|(apply Fk.r;focus repeat' first|infer_instance|constructor)|refine Rf.mk ⟨rfl, rfl, rfl⟩ ?_|fail)
 rename_i w
 (apply Cl.lend (alike_p [a, b]);(focus repeat' (first|exact Lend.nil|(apply Lend.lendm;(focus repeat constructor);(focus rfl);(focus first|omega|decide|(simp;omega)|exact Nat.le_of_ble_eq_true rfl))|fail)))
 repeat' (first|refine Sp.h ?_|refine Lk.r rfl ?_|refine Rf.mk rfl ?_|(refine Bd.mk ?_ ?_ <;> intro _)|refine Im.mk fun _=>?_|refine xN ?_|fail)
 ·rename_i hal hla
  obtain ⟨hva, hvb, hlab⟩ := (alike2 a b).1 hal
  refine CA.nilOwn 5 216 3 spanC rfl fun w2 => ?_
  refine CA.loop (fun x : Nat × Value × List (Int × Int × Int) => ⟨[(0, ints a), (1, ints b), (13, .val (.int .i64 a.length)), (14, .val (.int .i64 x.1)), (5, .ow x.2.1)], [arrR x.2.1 216 3 x.2.2 spanC]⟩)
   (fun x => x.1 ≤ a.length ∧ x.2.2.length ≤ x.1 ∧ (x.2.2 = [] ↔ ∀ j p q, j < x.1 → a[j]? = some p → b[j]? = some q → q ≤ p)) (fun x => a.length - x.1) (0, w2, []) xE ⟨Nat.zero_le _, Nat.le_refl _, ⟨fun _ j p q h => absurd h (by omega), fun _ => rfl⟩⟩ ?_
  rintro ⟨i, v, l⟩ ⟨hi, hl, hq⟩
  simp only at hi hl hq
  by_cases hin : i < a.length
  ·obtain ⟨x, hx⟩ := get_of hin
   obtain ⟨y, hy⟩ := get_of (l := b) (i := i) (by omega)
   have hrx := hva.1 x (List.mem_of_getElem? hx)
   unfold rngK at hrx
   have hva3 := hva.2
   repeat' (first|refine Sp.h ?_|refine Lk.r rfl ?_|refine Rf.mk rfl ?_|refine xA ?_|(refine Bd.mk ?_ ?_ <;> intro _)|refine OpK.r rfl ?_|refine xP ?_|refine All.mk fun _=>?_|refine xU ?_|refine xI ?_|refine Ce.r ?_|(apply Fk.r;focus repeat' first|infer_instance|constructor)|refine Rf.mk ⟨rfl, rfl⟩ ?_|refine Rf.mk ⟨rfl, rfl, rfl⟩ ?_|(apply Mp.lit;(focus repeat (first|exact MpL.nil|(apply MpL.cons;(focus rfl))|(apply MpL.inv;(focus repeat constructor);(focus infer_instance)))))|refine xD ?_|refine xO ?_|fail)
   ·rename_i hxy _ v2
    refine PA.lp (i + 1, v2, l ++ [((i : Int), x + 1, y)]) xE ⟨⟨hin, by simp;omega, ?_⟩, by simp only;omega⟩
    constructor
    ·intro h;simp at h
    ·intro h;have := h i x y (by simp) hx hy;omega
   ·rename_i hxy
    refine PA.lp (i + 1, v, l) xE ⟨⟨hin, by simp only;omega, hq.trans ⟨fun h j p q hj h1 h2 => ?_, fun h j p q hj h1 h2 => h j p q (by simp only;omega) h1 h2⟩⟩, by simp only;omega⟩
    by_cases e : j = i
    ·subst e;rw [hx] at h1;rw [hy] at h2;cases h1;cases h2;omega
    ·exact h j p q (by simp only at hj;omega) h1 h2
  ·have : i = a.length := by omega
   subst this
   repeat' (first|refine Sp.h ?_|refine Lk.r rfl ?_|refine Rf.mk rfl ?_|refine xB ?_|refine xN ?_|fail)
   exact ⟨_, _, .one (.same (.z)), v, l, rfl, rfl, ⟨fun h _ j p q h1 h2 => hq.1 h j q p (List.getElem?_eq_some_iff.1 h2).1 h2 h1, fun h => hq.2 fun j p q _ h1 h2 => h hal j q p h2 h1⟩, by have := hva.2;omega⟩
 ·exact ⟨_, _, .one (.nils (.z)), _, [], rfl, rfl, ⟨fun _ h => absurd h (by assumption), fun _ => rfl⟩, by simp⟩
/-! ### Zero -/
theorem zero_ok (n : Int) (hn : 1 ≤ n ∧ n ≤ 5) : CallO Tryz.prog 88 [.val (.int .i64 n)] 3 1 (List.replicate n.toNat 0) intC := by
 obtain ⟨m, rfl⟩ : ∃ m : Nat, n = m := ⟨n.toNat, by omega⟩
 refine CallA.of pg ord88 Tryz.func88 rfl Tryz.ntmps88 Tryz.results88 rfl fun h0 G0 O0 => ?_
 repeat' (first|refine Sp.h ?_|refine Lk.r rfl ?_|refine Rf.mk rfl ?_|refine xB ?_|refine All.mk fun _=>?_|refine xN ?_|refine Rf.mk ⟨rfl, rfl, rfl⟩ ?_|(apply Jx.r;(focus exact rfl);(focus first|omega|(simp;done)|(simp;omega)))|refine MkS.r intC 0 rfl ?_|fail)
 exact ⟨_, _, .one (.same (.z)), _, rfl, rfl⟩
/-! ### Compare -/
theorem compare_p (a b : List Int) : CallP Tryz.prog 134 [ints a, ints b] (if AlikeC [a, b] then .tup [.val (.int .i64 (if Ins a b ∧ Ins b a then 0 else if Ins a b then 1 else if Ins b a then 2 else 3)), .val (.int .i64 0)] else .tup [.val (.int .i64 0), .val (.int .i64 1)]) := by
 refine CallA.of pg ord134 Tryz.func134 rfl Tryz.ntmps134 Tryz.results134 rfl fun h0 G0 O0 => ?_
 repeat' (first|refine Sp.h ?_|refine Lk.r rfl ?_|refine Rf.mk rfl ?_|refine All.mk fun _=>?_|(apply Fk.r;focus repeat' first|infer_instance|constructor)|refine Rf.mk ⟨rfl, rfl, rfl⟩ ?_|fail)
 (apply Cl.lend (alike_p [a, b]);(focus repeat' (first|exact Lend.nil|(apply Lend.lendm;(focus repeat constructor);(focus rfl);(focus first|omega|decide|(simp;omega)|exact Nat.le_of_ble_eq_true rfl))|fail)))
 by_cases hal : AlikeC [a, b]
 ·obtain ⟨_, _, hlab⟩ := (alike2 a b).1 hal
  have l1 : a.length ≤ b.length := by omega
  have l2 : b.length ≤ a.length := by omega
  repeat' (first|refine Sp.h ?_|refine Lk.r rfl ?_|refine Rf.mk rfl ?_|refine xA ?_|fail)
  refine xQ (inside_p a b l1) ?_
  repeat' (first|refine Sp.h ?_|refine Lk.r rfl ?_|refine Rf.mk rfl ?_|fail)
  refine xQ (inside_p b a l2) ?_
  repeat' (first|refine Sp.h ?_|refine Lk.r rfl ?_|refine Rf.mk rfl ?_|refine xA ?_|refine xB ?_|(refine Bd.mk ?_ ?_ <;> intro _)|refine xN ?_|fail)
  all_goals refine Fin.p rfl ?_
  all_goals rw [if_pos hal]
  all_goals simp only [*, and_self, and_true, if_true, if_false, and_false]
 ·repeat' (first|refine Sp.h ?_|refine Lk.r rfl ?_|refine Rf.mk rfl ?_|refine xB ?_|refine xN ?_|fail)
  exact Fin.p rfl (by rw [if_neg hal])
end Go.Proofs.YtmjllbjfkafhdaaGreatDoor
namespace Go.Proofs.YtmjllbjfkafhdaaGreatDoor
open Go Go.CF
set_option maxRecDepth 20000
def zipC (op : Int → Int → Int) (a b : List Int) : List Int := List.zipWith op a b
def foldC (op : Int → Int → Int) (l : List (List Int)) : List Int := l.tail.foldl (zipC op) (l.headD [])
theorem zip_step {op : Int → Int → Int} {a c : List Int} {i : Nat} {x y : Int} (ha : a[i]? = some x) (hc : c[i]? = some y) (hl : a.length = c.length) :
  ((zipC op a c).take i ++ a.drop i).set i (op x y) = (zipC op a c).take (i + 1) ++ a.drop (i + 1) := by
 have hz : (zipC op a c)[i]? = some (op x y) := by simp [zipC, List.getElem?_zipWith, ha, hc]
 have hi := (List.getElem?_eq_some_iff.1 ha).1
 have hzl : (zipC op a c).length = a.length := by simp [zipC];omega
 apply List.ext_getElem?
 intro j
 rw [List.getElem?_set]
 have htl : ((zipC op a c).take i).length = i := by simp;omega
 have htl2 : ((zipC op a c).take (i + 1)).length = i + 1 := by simp;omega
 by_cases hij : i = j
 ·subst hij
  rw [if_pos rfl, if_pos (by simp;omega), List.getElem?_append_left (by omega), List.getElem?_take, if_pos (by omega), hz]
 ·rw [if_neg hij]
  by_cases hj : j < i
  ·rw [List.getElem?_append_left (by omega), List.getElem?_append_left (by omega), List.getElem?_take, List.getElem?_take, if_pos hj, if_pos (by omega)]
  ·rw [List.getElem?_append_right (by omega), List.getElem?_append_right (by omega), htl, htl2, List.getElem?_drop, List.getElem?_drop]
   congr 1;omega
theorem zip_at {op : Int → Int → Int} {a c : List Int} {i : Nat} {x : Int} (ha : a[i]? = some x) (hl : a.length = c.length) : ((zipC op a c).take i ++ a.drop i)[i]? = some x := by
 have hi := (List.getElem?_eq_some_iff.1 ha).1
 have hzl : (zipC op a c).length = a.length := by simp [zipC];omega
 have htl : ((zipC op a c).take i).length = i := by simp;omega
 rw [List.getElem?_append_right (by omega), htl, Nat.sub_self, List.getElem?_drop]
 simpa using ha

set_option maxHeartbeats 1000000 in

theorem zipC_len {op : Int → Int → Int} {a c : List Int} (h : a.length = c.length) : (zipC op a c).length = a.length := by simp [zipC];omega
def foldN (op : Int → Int → Int) (d : List Int) (r : List (List Int)) (i : Nat) : List Int := (r.take i).foldl (zipC op) d
theorem foldN_succ {op : Int → Int → Int} {d : List Int} {r : List (List Int)} {i : Nat} {c : List Int} (h : r[i]? = some c) : foldN op d r (i + 1) = zipC op (foldN op d r i) c := by
 unfold foldN
 rw [List.take_add_one, h]
 simp
theorem foldN_len {op : Int → Int → Int} {d : List Int} {r : List (List Int)} (h : ∀ c ∈ r, c.length = d.length) : ∀ i, (foldN op d r i).length = d.length
 | 0 => rfl
 | i + 1 => by
  cases hr : r[i]? with
  | none =>
   have := foldN_len h (op := op) i
   unfold foldN at this ⊢
   rw [List.take_add_one, hr]
   simpa using this
  | some c =>
   have ih := foldN_len h (op := op) i
   rw [foldN_succ hr, zipC_len (by rw [ih, h c (List.mem_of_getElem? hr)]), ih]
theorem fold_o {g : FuncId} {op : Int → Int → Int} (hg : ∀ x y, CallP Tryz.prog g [.val (.int .i64 x), .val (.int .i64 y)] (.val (.int .i64 (op x y)))) (he : en g = true) (d : List Int) (r : List (List Int)) (hal : AlikeC (d :: r)) :
  CallO Tryz.prog 158 [.fn g [], clks (d :: r)] 3 1 ((d :: r).tail.foldl (zipC op) d) intC := by
 have hd := hal.2 d (by simp)
 have hd2 := hd.1.2
 have hr : ∀ c ∈ r, c.length = d.length := fun c hc => (hal.2 c (by simp [hc])).2
 have hd0 : (d :: r)[0]? = some d := rfl
 refine CallA.of pg ord158 Tryz.func158 rfl Tryz.ntmps158 Tryz.results158 rfl fun h0 G0 O0 => ?_
 repeat' (first|refine Sp.h ?_|refine Lk.r rfl ?_|refine Rf.mk rfl ?_|fail)
 refine xQ (alike_p _) ?_
 repeat' (first|refine Sp.h ?_|refine Lk.r rfl ?_|refine Rf.mk rfl ?_|refine xA ?_|refine xI ?_|fail)
 have hl : d.length ≤ 1000000000 := by omega
 (refine Cl.use (clone_o d hl) (by repeat' (first|exact Lend.nil|apply Lend.keep|fail)) .nil rfl ?_;rintro _ _ ⟨_, rfl, rfl⟩)
 repeat' (first|refine Sp.h ?_|refine Lk.r rfl ?_|refine Rf.mk rfl ?_|refine Im.mk fun _=>?_|(apply Jx.r;(focus exact rfl);(focus first|omega|(simp;done)|(simp;omega)))|fail)
 rw [show List.take ((d :: r).length - 1) (List.drop 1 (d :: r)) = r by simp]
 repeat' (first|fail)
 rename_i w hrl
 have hrl : r.length ≤ 9223372036854775807 := by simpa using hrl
 refine CA.loop (fun x : Nat × Value => ⟨[(0, .fn g []), (18, clks r), (19, .val (.int .i64 r.length)), (20, .val (.int .i64 x.1)), (5, .ow x.2)], [arrR x.2 3 1 (foldN op d r x.1) intC]⟩)
  (fun x => x.1 ≤ r.length) (fun x => r.length - x.1) (0, w) xE (Nat.zero_le _) ?_
 rintro ⟨k, v⟩ hk
 simp only at hk
 by_cases hin : k < r.length
 ·obtain ⟨c, hc⟩ := get_of hin
  have hcl := hr c (List.mem_of_getElem? hc)
  have hfl := foldN_len (op := op) hr k
  repeat' (first|refine Sp.h ?_|refine Lk.r rfl ?_|refine Rf.mk rfl ?_|refine xA ?_|refine Im.mk fun _=>?_|refine xI ?_|fail)
  obtain ⟨A, hA⟩ : ∃ A, A = foldN op d r k := ⟨_, rfl⟩
  rw [← hA] at hfl
  refine CA.loop (fun x : Nat × Value => ⟨[(0, .fn g []), (18, clks r), (19, .val (.int .i64 r.length)), (20, .val (.int .i64 k)), (24, ints c), (25, .val (.int .i64 c.length)), (26, .val (.int .i64 x.1)), (5, .ow x.2)], [arrR x.2 3 1 ((zipC op A c).take x.1 ++ A.drop x.1) intC]⟩)
   (fun x => x.1 ≤ c.length) (fun x => c.length - x.1) (0, v) (by subst hA;exact xE) (Nat.zero_le _) ?_
  rintro ⟨i, v⟩ hi
  simp only at hi
  by_cases hic : i < c.length
  ·obtain ⟨y, hy⟩ := get_of hic
   obtain ⟨x, hx⟩ := get_of (l := A) (i := i) (by omega)
   have hat := zip_at (op := op) (c := c) hx (by omega)
   have hst := zip_step (op := op) hx hy (by omega)
   repeat' (first|refine Sp.h ?_|refine Lk.r rfl ?_|refine Rf.mk rfl ?_|refine xA ?_|refine xU ?_|refine xI ?_|refine xJ ?_|(apply Rf.mk;(focus assumption))|fail)
   refine xQ (hg x y) ?_
   repeat' (first|refine Sp.h ?_|refine Lk.r rfl ?_|refine Rf.mk rfl ?_|refine xU ?_|refine xI ?_|refine xJ ?_|refine xV ?_|refine Up.r rfl ?_|refine xO ?_|fail)
   rw [hst]
   exact PA.lp (i + 1, v) xE ⟨hic, by simp only;omega⟩
  ·have : i = c.length := by omega
   subst this
   have e1 : (zipC op A c).take c.length ++ A.drop c.length = zipC op A c := by
    rw [List.drop_of_length_le (by omega), List.append_nil, List.take_of_length_le (by rw [zipC_len (by omega)];omega)]
   simp only [e1]
   repeat' (first|refine Sp.h ?_|refine Lk.r rfl ?_|refine Rf.mk rfl ?_|refine xB ?_|refine xO ?_|fail)
   refine PA.lp (k + 1, v) (by rw [foldN_succ hc, ← hA];exact xE) ⟨hin, by simp only;omega⟩
 ·have : k = r.length := by omega
  subst this
  repeat' (first|refine Sp.h ?_|refine Lk.r rfl ?_|refine Rf.mk rfl ?_|refine xB ?_|refine xN ?_|fail)
  have e1 : foldN op d r r.length = (d :: r).tail.foldl (zipC op) d := by simp [foldN]
  simp only [e1]
  exact ⟨_, _, .one (.same (.z)), _, rfl, rfl⟩
theorem fold_nil {g : FuncId} (l : List (List Int)) (hal : ¬ AlikeC l) : CallP Tryz.prog 158 [.fn g [], clks l] (.val (.slice none 0 0)) := by
 refine CallA.of pg ord158 Tryz.func158 rfl Tryz.ntmps158 Tryz.results158 rfl fun h0 G0 O0 => ?_
 repeat' (first|refine Sp.h ?_|refine Lk.r rfl ?_|refine Rf.mk rfl ?_|fail)
 refine xQ (alike_p _) ?_
 repeat' (first|refine Sp.h ?_|refine Lk.r rfl ?_|refine Rf.mk rfl ?_|refine xB ?_|refine xN ?_|fail)
 exact Fin.p rfl rfl
theorem meet1_p (x y : Int) : CallP Tryz.prog 159 [.val (.int .i64 x), .val (.int .i64 y)] (.val (.int .i64 (min x y))) := by
 refine CallA.of pg ord159 Tryz.func159 rfl Tryz.ntmps159 Tryz.results159 rfl fun h0 G0 O0 => ?_
 repeat' (first|refine Sp.h ?_|refine Lk.r rfl ?_|refine Rf.mk rfl ?_|refine xN ?_|fail)
 exact Fin.p rfl rfl
theorem alike_cons {l : List (List Int)} (h : AlikeC l) : ∃ d r, l = d :: r := by
 cases l with
 | nil => exact absurd h.1 (by simp)
 | cons d r => exact ⟨d, r, rfl⟩
theorem meet_o (l : List (List Int)) (hal : AlikeC l) : CallO Tryz.prog 101 [clks l] 3 1 (foldC min l) intC := by
 obtain ⟨d, r, rfl⟩ := alike_cons hal
 refine CallA.of pg ord101 Tryz.func101 rfl Tryz.ntmps101 Tryz.results101 rfl fun h0 G0 O0 => ?_
 repeat' (first|refine Sp.h ?_|refine Lk.r rfl ?_|refine Rf.mk rfl ?_|fail)
 have he : en 159 = true := rfl
 (refine Cl.use (fold_o meet1_p he d r hal) (by repeat' (first|exact Lend.nil|apply Lend.keep|fail)) .nil rfl ?_;rintro _ _ ⟨_, rfl, rfl⟩)
 repeat' (first|refine Sp.h ?_|refine Lk.r rfl ?_|refine xN ?_|fail)
 exact ⟨_, _, .one (.same (.z)), _, rfl, rfl⟩
theorem meet_nil (l : List (List Int)) (hal : ¬ AlikeC l) : CallP Tryz.prog 101 [clks l] (.val (.slice none 0 0)) := by
 refine CallA.of pg ord101 Tryz.func101 rfl Tryz.ntmps101 Tryz.results101 rfl fun h0 G0 O0 => ?_
 repeat' (first|refine Sp.h ?_|refine Lk.r rfl ?_|refine Rf.mk rfl ?_|fail)
 refine xQ (fold_nil l hal) ?_
 repeat' (first|refine Sp.h ?_|refine Lk.r rfl ?_|refine xN ?_|fail)
 exact Fin.p rfl rfl
end Go.Proofs.YtmjllbjfkafhdaaGreatDoor
namespace Go.Proofs.YtmjllbjfkafhdaaGreatDoor
open Go Go.CF
set_option maxRecDepth 20000
/-! ### Events -/
structure EvS where
 rep : Int
 num : Int
 time : Int
 past : List Int
 kind : Int
 action : Int
 gk : Int
 gi : Int
 ge : Int
 ga : Int
 to : Int
 place : Int
 serial : Int
abbrev iv (x : Int) : AV := .val (.int .i64 x)
def evC (e : EvS) : List AV := [iv e.rep, iv e.num, iv e.time, ints e.past, iv e.kind, iv e.action, iv e.gk, iv e.gi, iv e.ge, iv e.ga, iv e.to, iv e.place, iv e.serial]
abbrev evA' (e : EvS) : AV := .agg (evC e)
abbrev evs (l : List EvS) : AV := .sl 13 l evC
def Btw (n lo hi : Int) : Prop := lo ≤ n ∧ n ≤ hi
instance (n lo hi : Int) : Decidable (Btw n lo hi) := inferInstanceAs (Decidable (_ ∧ _))
theorem between_p (n lo hi : Int) : CallP Tryz.prog 241 [iv n, iv lo, iv hi] (.val (.bool (decide (Btw n lo hi)))) := by
 refine CallA.of pg ord241 Tryz.func241 rfl Tryz.ntmps241 Tryz.results241 rfl fun h0 G0 O0 => ?_
 repeat' (first|refine Sp.h ?_|refine Lk.r rfl ?_|refine Rf.mk rfl ?_|refine xA ?_|refine xB ?_|(refine Bd.mk ?_ ?_ <;> intro _)|refine xN ?_|fail)
 all_goals refine Fin.p rfl (vb ?_)
 ·exact decide_eq_decide.2 (by unfold Btw;omega)
 ·exact (decide_eq_false (by unfold Btw;omega)).symm
end Go.Proofs.YtmjllbjfkafhdaaGreatDoor
namespace Go.Proofs.YtmjllbjfkafhdaaGreatDoor
open Go Go.CF Go.ChangeShapes Go.WideShapes Go.ChangeAt Go.RowKit
set_option maxRecDepth 100000

theorem knob : ownKnob Tryz.prog.godebug = none := by kernel_rfl
theorem laid : laidOutB Tryz.prog = true := by kernel_rfl
end Go.Proofs.YtmjllbjfkafhdaaGreatDoor
namespace Go.Proofs.YtmjllbjfkafhdaaGreatDoor
open Go Go.CF Go.ChangeShapes Go.WideShapes Go.ChangeAt Go.RowKit
set_option maxRecDepth 100000
abbrev laidL : List (String × DataW Unit) := [("unicode.White_Space", Rows.laid_unicode_White_Space), ("strings.asciiSpace", Rows.laid_strings_asciiSpace)]
theorem gAsc : Tryz.prog.globalNamed "strings.asciiSpace" = some 0 := by kernel_rfl
theorem tAsc : (Tryz.prog.globals[0]?).map (·.type) = some 347 := by kernel_rfl
theorem ambG_eq : ambG Tryz.prog = [0] := by kernel_rfl
theorem c8 : Tryz.prog.cellsOf 5 = 1 := by kernel_rfl
theorem asc_d : (Rows.laid_strings_asciiSpace : DataW Unit) = .agg (ascVs.map fun v => match v with | .int k n => .lit (.int k n)|_ => .nil) := by kernel_rfl
theorem ascVs_len : ascVs.length = 256 := by kernel_rfl
theorem amb_of {W : World} (h : laidMetH Tryz.prog laidL W) : AmbOK Tryz.prog W.heap (Old W.heap) := by
 rw [MakeChecks.laidMetH_plain _ _ _ (by kernel_rfl)] at h
 obtain ⟨ps, ⟨g0, t0, cs0, f0, p0, q0, hg0, ht0, hv0, hd0, ⟨g1, t1, cs1, f1, p1, q1, hg1, ht1, hv1, hd1, _, _⟩, _⟩, _, _⟩ := h
 obtain rfl := Option.some.inj (gAsc.symm.trans hg1)
 obtain rfl := Option.some.inj (tAsc.symm.trans ht1)
 obtain ⟨xs, m1, rfl, hx1, hlen, hn, hel⟩ := DataW.trod_array Tryz.underlying347 hd1
 rw [asc_d] at hx1
 simp only [Prod.mk.injEq, DataW.agg.injEq] at hx1
 have hcell := fun i => World.var?_cell hg1 hv1 i
 have hat : ∀ j v, ascVs[j]? = some v → W.cell? ⟨0, j, none⟩ = some v := by
  intro j v hj
  have hj256 : j < 256 := by rw [← ascVs_len];exact (List.getElem?_eq_some_iff.1 hj).1
  have h1 := hel j hj256
  rw [c8, Nat.mul_one] at h1
  have hxj : xs[j]? = some (xs[j]'(by omega)) := List.getElem?_eq_getElem (by omega)
  rw [hxj] at h1
  obtain ⟨k, e1, e2, _⟩ := DataW.trod_int Tryz.underlying5 h1
  have h2 := congrArg (fun l => l[j]?) hx1.1
  simp only [List.getElem?_map, hj, hxj, Option.map_some, Option.some.injEq] at h2
  rw [e2] at h2
  have hk : v = .int .u8 k := by
   unfold ascVs at hj
   rw [List.getElem?_map, List.getElem?_range hj256] at hj
   simp only [Option.map_some, Option.some.injEq] at hj
   subst hj
   simp only [DataW.lit.injEq, Lit.int.injEq, true_and] at h2
   rw [h2]
  rw [hcell j, ← Array.getElem?_toList, hk]
  have h3 := congrArg (fun l => l[0]?) e1
  simp only [List.getElem?_take, List.getElem?_drop, List.getElem?_cons_zero] at h3
  simpa using h3
 intro g hg
 rw [ambG_eq] at hg
 obtain rfl := List.mem_singleton.1 hg
 have h0 : W.cell? ⟨0, 0, none⟩ = some (.int .u8 0) := hat 0 _ rfl
 have hlt : 0 < W.heap.size := by
  unfold World.cell? at h0
  split at h0
  ·rename_i e
   exact (Array.getElem?_eq_some_iff.1 e).1
  ·cases h0
 refine ⟨hlt, hlt, ⟨fun j v hj => ⟨fun w hw => ?_⟩⟩⟩
 rw [addr_add, Nat.zero_add]
 have := hat j v hj
 unfold World.cell? at this ⊢
 rw [hw]
 exact this
theorem door_met (os : Os) (args : Array Value) : laidMetH Tryz.prog laidL ((World.doorLaid Tryz.prog 33 os).forCall (fun _ _ => 0) ⟨#[], args, []⟩).memory :=
 laidMetH_of_parts3 (fuel := 8) (laidMet_of_run' 8 (by kernel_rfl) (by kernel_rfl)) (by kernel_rfl) (by kernel_rfl)
end Go.Proofs.YtmjllbjfkafhdaaGreatDoor
