/- Part 4 of the ground of this proof: what its texts say of the model, the program and the plain data; conditions: those that are named. -/
import Derived.Test.YtmllihbhphnolaaGreatProg
import Derived.KernelRfl
import Derived.Test.YtmllihbhphnolaaGreatRows
import Derived.Test.YtmllihbhphnolaaGreatT03
namespace Go.Proofs.YtmllihbhphnolaaGreat
open Go Go.CF
def ti3 : TI := ⟨.int .i64, 1, 8, .int .i64 0⟩ -- int
theorem tok3 : TOK Tryz.prog 3 ti3 := TOK.mk' (by kernel_rfl) (by kernel_rfl)
def ti4 : TI := ⟨.bool, 1, 1, .bool false⟩ -- bool
theorem tok4 : TOK Tryz.prog 4 ti4 := TOK.mk' (by kernel_rfl) (by kernel_rfl)
def ti5 : TI := ⟨.int .u8, 1, 1, .int .u8 0⟩ -- uint8
theorem tok5 : TOK Tryz.prog 5 ti5 := TOK.mk' (by kernel_rfl) (by kernel_rfl)
def ti9 : TI := ⟨.str, 1, 16, .string ⟨#[]⟩⟩ -- string
theorem tok9 : TOK Tryz.prog 9 ti9 := TOK.mk' (by kernel_rfl) (by kernel_rfl)
def ti22 : TI := ⟨.slice 3, 1, 24, .slice none 0 0⟩ -- []int
theorem tok22 : TOK Tryz.prog 22 ti22 := TOK.mk' (by kernel_rfl) (by kernel_rfl)
def ti23 : TI := ⟨.slice 157, 1, 24, .slice none 0 0⟩ -- []api.Table
theorem tok23 : TOK Tryz.prog 23 ti23 := TOK.mk' (by kernel_rfl) (by kernel_rfl)
def ti24 : TI := ⟨.slice 9, 1, 24, .slice none 0 0⟩ -- []string
theorem tok24 : TOK Tryz.prog 24 ti24 := TOK.mk' (by kernel_rfl) (by kernel_rfl)
def ti25 : TI := ⟨.slice 225, 1, 24, .slice none 0 0⟩ -- []api.Constraint
theorem tok25 : TOK Tryz.prog 25 ti25 := TOK.mk' (by kernel_rfl) (by kernel_rfl)
def ti26 : TI := ⟨.slice 227, 1, 24, .slice none 0 0⟩ -- []api.Operation
theorem tok26 : TOK Tryz.prog 26 ti26 := TOK.mk' (by kernel_rfl) (by kernel_rfl)
def ti27 : TI := ⟨.slice 151, 1, 24, .slice none 0 0⟩ -- []api.Action
theorem tok27 : TOK Tryz.prog 27 ti27 := TOK.mk' (by kernel_rfl) (by kernel_rfl)
def ti28 : TI := ⟨.slice 303, 1, 24, .slice none 0 0⟩ -- []api.Hide
theorem tok28 : TOK Tryz.prog 28 ti28 := TOK.mk' (by kernel_rfl) (by kernel_rfl)
def ti30 : TI := ⟨.struct [(0, 22, 1), (1, 23, 1), (2, 24, 1), (3, 25, 1), (4, 26, 1), (5, 27, 1), (6, 28, 1)], 7, 168, .agg #[.slice none 0 0, .slice none 0 0, .slice none 0 0, .slice none 0 0, .slice none 0 0, .slice none 0 0, .slice none 0 0]⟩ -- api.Model
theorem tok30 : TOK Tryz.prog 30 ti30 := TOK.mk' (by kernel_rfl) (by kernel_rfl)
def ti31 : TI := ⟨.slice 37, 1, 24, .slice none 0 0⟩ -- []api.Event
theorem tok31 : TOK Tryz.prog 31 ti31 := TOK.mk' (by kernel_rfl) (by kernel_rfl)
def ti33 : TI := ⟨.struct [(0, 3, 1), (1, 3, 1), (2, 3, 1)], 3, 24, .agg #[.int .i64 0, .int .i64 0, .int .i64 0]⟩ -- api.Right
theorem tok33 : TOK Tryz.prog 33 ti33 := TOK.mk' (by kernel_rfl) (by kernel_rfl)
def ti35 : TI := ⟨.struct [(0, 33, 3), (3, 3, 1)], 4, 32, .agg #[.int .i64 0, .int .i64 0, .int .i64 0, .int .i64 0]⟩ -- api.Need
theorem tok35 : TOK Tryz.prog 35 ti35 := TOK.mk' (by kernel_rfl) (by kernel_rfl)
def ti37 : TI := ⟨.struct [(0, 3, 1), (1, 3, 1), (2, 3, 1), (3, 22, 1), (4, 3, 1), (5, 3, 1), (6, 35, 4), (10, 3, 1), (11, 3, 1), (12, 3, 1)], 13, 120, .agg #[.int .i64 0, .int .i64 0, .int .i64 0, .slice none 0 0, .int .i64 0, .int .i64 0, .int .i64 0, .int .i64 0, .int .i64 0, .int .i64 0, .int .i64 0, .int .i64 0, .int .i64 0]⟩ -- api.Event
theorem tok37 : TOK Tryz.prog 37 ti37 := TOK.mk' (by kernel_rfl) (by kernel_rfl)
def ti40 : TI := ⟨.ptr 165, 1, 8, .pointer none⟩ -- *store.Store
theorem tok40 : TOK Tryz.prog 40 ti40 := TOK.mk' (by kernel_rfl) (by kernel_rfl)
def ti44 : TI := ⟨.int .i64, 1, 8, .int .i64 0⟩ -- api.Errno
theorem tok44 : TOK Tryz.prog 44 ti44 := TOK.mk' (by kernel_rfl) (by kernel_rfl)
def ti48 : TI := ⟨.func, 1, 8, .nilFunc⟩ -- func(api.Event) bool
theorem tok48 : TOK Tryz.prog 48 ti48 := TOK.mk' (by kernel_rfl) (by kernel_rfl)
def ti53 : TI := ⟨.struct [(0, 3, 1), (1, 3, 1)], 2, 16, .agg #[.int .i64 0, .int .i64 0]⟩ -- api.Dot
theorem tok53 : TOK Tryz.prog 53 ti53 := TOK.mk' (by kernel_rfl) (by kernel_rfl)
def ti58 : TI := ⟨.ptr 185, 1, 8, .pointer none⟩ -- *antientropy.Peer
theorem tok58 : TOK Tryz.prog 58 ti58 := TOK.mk' (by kernel_rfl) (by kernel_rfl)
def ti65 : TI := ⟨.struct [(0, 22, 1), (1, 31, 1)], 2, 48, .agg #[.slice none 0 0, .slice none 0 0]⟩ -- confluentref33.Buffer
theorem tok65 : TOK Tryz.prog 65 ti65 := TOK.mk' (by kernel_rfl) (by kernel_rfl)
def ti71 : TI := ⟨.slice 123, 1, 24, .slice none 0 0⟩ -- []api.Merged
theorem tok71 : TOK Tryz.prog 71 ti71 := TOK.mk' (by kernel_rfl) (by kernel_rfl)
def ti72 : TI := ⟨.slice 22, 1, 24, .slice none 0 0⟩ -- [][]int
theorem tok72 : TOK Tryz.prog 72 ti72 := TOK.mk' (by kernel_rfl) (by kernel_rfl)
def ti73 : TI := ⟨.slice 72, 1, 24, .slice none 0 0⟩ -- [][][]int
theorem tok73 : TOK Tryz.prog 73 ti73 := TOK.mk' (by kernel_rfl) (by kernel_rfl)
def ti75 : TI := ⟨.struct [(0, 22, 1), (1, 3, 1), (2, 22, 1), (3, 71, 1), (4, 72, 1), (5, 73, 1), (6, 22, 1)], 7, 152, .agg #[.slice none 0 0, .int .i64 0, .slice none 0 0, .slice none 0 0, .slice none 0 0, .slice none 0 0, .slice none 0 0]⟩ -- api.Base
theorem tok75 : TOK Tryz.prog 75 ti75 := TOK.mk' (by kernel_rfl) (by kernel_rfl)
def ti80 : TI := ⟨.struct [(0, 75, 7), (7, 31, 1)], 8, 176, .agg #[.slice none 0 0, .int .i64 0, .slice none 0 0, .slice none 0 0, .slice none 0 0, .slice none 0 0, .slice none 0 0, .slice none 0 0]⟩ -- confluentref35.Store
theorem tok80 : TOK Tryz.prog 80 ti80 := TOK.mk' (by kernel_rfl) (by kernel_rfl)
def ti84 : TI := ⟨.struct [(0, 80, 8), (8, 65, 2), (10, 44, 1)], 11, 232, .agg #[.slice none 0 0, .int .i64 0, .slice none 0 0, .slice none 0 0, .slice none 0 0, .slice none 0 0, .slice none 0 0, .slice none 0 0, .slice none 0 0, .slice none 0 0, .int .i64 0]⟩ -- confluentref38.Peer
theorem tok84 : TOK Tryz.prog 84 ti84 := TOK.mk' (by kernel_rfl) (by kernel_rfl)
def ti86 : TI := ⟨.slice 31, 1, 24, .slice none 0 0⟩ -- [][]api.Event
theorem tok86 : TOK Tryz.prog 86 ti86 := TOK.mk' (by kernel_rfl) (by kernel_rfl)
def ti94 : TI := ⟨.slice 5, 1, 24, .slice none 0 0⟩ -- []uint8
theorem tok94 : TOK Tryz.prog 94 ti94 := TOK.mk' (by kernel_rfl) (by kernel_rfl)
def ti102 : TI := ⟨.slice 106, 1, 24, .slice none 0 0⟩ -- []api.Span
theorem tok102 : TOK Tryz.prog 102 ti102 := TOK.mk' (by kernel_rfl) (by kernel_rfl)
def ti106 : TI := ⟨.struct [(0, 3, 1), (1, 3, 1), (2, 3, 1)], 3, 24, .agg #[.int .i64 0, .int .i64 0, .int .i64 0]⟩ -- api.Span
theorem tok106 : TOK Tryz.prog 106 ti106 := TOK.mk' (by kernel_rfl) (by kernel_rfl)
def ti121 : TI := ⟨.slice 125, 1, 24, .slice none 0 0⟩ -- []api.Mark
theorem tok121 : TOK Tryz.prog 121 ti121 := TOK.mk' (by kernel_rfl) (by kernel_rfl)
def ti123 : TI := ⟨.struct [(0, 4, 1), (1, 4, 1), (2, 121, 1)], 3, 32, .agg #[.bool false, .bool false, .slice none 0 0]⟩ -- api.Merged
theorem tok123 : TOK Tryz.prog 123 ti123 := TOK.mk' (by kernel_rfl) (by kernel_rfl)
def ti125 : TI := ⟨.struct [(0, 3, 1), (1, 3, 1), (2, 3, 1), (3, 3, 1)], 4, 32, .agg #[.int .i64 0, .int .i64 0, .int .i64 0, .int .i64 0]⟩ -- api.Mark
theorem tok125 : TOK Tryz.prog 125 ti125 := TOK.mk' (by kernel_rfl) (by kernel_rfl)
def ti138 : TI := ⟨.slice 58, 1, 24, .slice none 0 0⟩ -- []*antientropy.Peer
theorem tok138 : TOK Tryz.prog 138 ti138 := TOK.mk' (by kernel_rfl) (by kernel_rfl)
def ti145 : TI := ⟨.slice 160, 1, 24, .slice none 0 0⟩ -- []api.Change
theorem tok145 : TOK Tryz.prog 145 ti145 := TOK.mk' (by kernel_rfl) (by kernel_rfl)
def ti146 : TI := ⟨.slice 223, 1, 24, .slice none 0 0⟩ -- []api.Row
theorem tok146 : TOK Tryz.prog 146 ti146 := TOK.mk' (by kernel_rfl) (by kernel_rfl)
def ti147 : TI := ⟨.slice 153, 1, 24, .slice none 0 0⟩ -- []api.Update
theorem tok147 : TOK Tryz.prog 147 ti147 := TOK.mk' (by kernel_rfl) (by kernel_rfl)
def ti149 : TI := ⟨.struct [(0, 145, 1), (1, 146, 1), (2, 147, 1)], 3, 72, .agg #[.slice none 0 0, .slice none 0 0, .slice none 0 0]⟩ -- api.Effect
theorem tok149 : TOK Tryz.prog 149 ti149 := TOK.mk' (by kernel_rfl) (by kernel_rfl)
def ti151 : TI := ⟨.struct [(0, 3, 1), (1, 22, 1), (2, 149, 3)], 5, 104, .agg #[.int .i64 0, .slice none 0 0, .slice none 0 0, .slice none 0 0, .slice none 0 0]⟩ -- api.Action
theorem tok151 : TOK Tryz.prog 151 ti151 := TOK.mk' (by kernel_rfl) (by kernel_rfl)
def ti153 : TI := ⟨.struct [(0, 3, 1), (1, 3, 1), (2, 3, 1)], 3, 24, .agg #[.int .i64 0, .int .i64 0, .int .i64 0]⟩ -- api.Update
theorem tok153 : TOK Tryz.prog 153 ti153 := TOK.mk' (by kernel_rfl) (by kernel_rfl)
def ti155 : TI := ⟨.struct [(0, 3, 1), (1, 3, 1)], 2, 16, .agg #[.int .i64 0, .int .i64 0]⟩ -- api.Range
theorem tok155 : TOK Tryz.prog 155 ti155 := TOK.mk' (by kernel_rfl) (by kernel_rfl)
def ti157 : TI := ⟨.struct [(0, 9, 1), (1, 3, 1), (2, 22, 1), (3, 155, 2), (5, 3, 1)], 6, 72, .agg #[.string ⟨#[]⟩, .int .i64 0, .slice none 0 0, .int .i64 0, .int .i64 0, .int .i64 0]⟩ -- api.Table
theorem tok157 : TOK Tryz.prog 157 ti157 := TOK.mk' (by kernel_rfl) (by kernel_rfl)
def ti160 : TI := ⟨.struct [(0, 3, 1), (1, 3, 1)], 2, 16, .agg #[.int .i64 0, .int .i64 0]⟩ -- api.Change
theorem tok160 : TOK Tryz.prog 160 ti160 := TOK.mk' (by kernel_rfl) (by kernel_rfl)
def ti163 : TI := ⟨.struct [(0, 22, 1), (1, 3, 1), (2, 22, 1), (3, 71, 1), (4, 22, 1)], 5, 104, .agg #[.slice none 0 0, .int .i64 0, .slice none 0 0, .slice none 0 0, .slice none 0 0]⟩ -- store.now
theorem tok163 : TOK Tryz.prog 163 ti163 := TOK.mk' (by kernel_rfl) (by kernel_rfl)
def ti165 : TI := ⟨.struct [(0, 30, 7), (7, 75, 7), (14, 31, 1), (15, 163, 5)], 20, 448, .agg #[.slice none 0 0, .slice none 0 0, .slice none 0 0, .slice none 0 0, .slice none 0 0, .slice none 0 0, .slice none 0 0, .slice none 0 0, .int .i64 0, .slice none 0 0, .slice none 0 0, .slice none 0 0, .slice none 0 0, .slice none 0 0, .slice none 0 0, .slice none 0 0, .int .i64 0, .slice none 0 0, .slice none 0 0, .slice none 0 0]⟩ -- store.Store
theorem tok165 : TOK Tryz.prog 165 ti165 := TOK.mk' (by kernel_rfl) (by kernel_rfl)
def ti167 : TI := ⟨.func, 1, 8, .nilFunc⟩ -- func(*api.Event) bool
theorem tok167 : TOK Tryz.prog 167 ti167 := TOK.mk' (by kernel_rfl) (by kernel_rfl)
def ti169 : TI := ⟨.map 3 167, 1, 8, .map none⟩ -- map[int]func(*api.Event) bool
theorem tok169 : TOK Tryz.prog 169 ti169 := TOK.mk' (by kernel_rfl) (by kernel_rfl)
def ti171 : TI := ⟨.ptr 37, 1, 8, .pointer none⟩ -- *api.Event
theorem tok171 : TOK Tryz.prog 171 ti171 := TOK.mk' (by kernel_rfl) (by kernel_rfl)
def ti175 : TI := ⟨.struct [(0, 40, 1), (1, 37, 13), (14, 163, 5)], 19, 232, .agg #[.pointer none, .int .i64 0, .int .i64 0, .int .i64 0, .slice none 0 0, .int .i64 0, .int .i64 0, .int .i64 0, .int .i64 0, .int .i64 0, .int .i64 0, .int .i64 0, .int .i64 0, .int .i64 0, .slice none 0 0, .int .i64 0, .slice none 0 0, .slice none 0 0, .slice none 0 0]⟩ -- store.step
theorem tok175 : TOK Tryz.prog 175 ti175 := TOK.mk' (by kernel_rfl) (by kernel_rfl)
def ti176 : TI := ⟨.func, 1, 8, .nilFunc⟩ -- func() api.Errno
theorem tok176 : TOK Tryz.prog 176 ti176 := TOK.mk' (by kernel_rfl) (by kernel_rfl)
def ti177 : TI := ⟨.slice 176, 1, 24, .slice none 0 0⟩ -- []func() api.Errno
theorem tok177 : TOK Tryz.prog 177 ti177 := TOK.mk' (by kernel_rfl) (by kernel_rfl)
def ti179 : TI := ⟨.func, 1, 8, .nilFunc⟩ -- func(int) bool
theorem tok179 : TOK Tryz.prog 179 ti179 := TOK.mk' (by kernel_rfl) (by kernel_rfl)
def ti181 : TI := ⟨.ptr 234, 1, 8, .pointer none⟩ -- *delivery.Buffer
theorem tok181 : TOK Tryz.prog 181 ti181 := TOK.mk' (by kernel_rfl) (by kernel_rfl)
def ti185 : TI := ⟨.struct [(0, 40, 1), (1, 181, 1), (2, 44, 1)], 3, 24, .agg #[.pointer none, .pointer none, .int .i64 0]⟩ -- antientropy.Peer
theorem tok185 : TOK Tryz.prog 185 ti185 := TOK.mk' (by kernel_rfl) (by kernel_rfl)
def ti196 : TI := ⟨.func, 1, 8, .nilFunc⟩ -- func(int, int) int
theorem tok196 : TOK Tryz.prog 196 ti196 := TOK.mk' (by kernel_rfl) (by kernel_rfl)
def ti197 : TI := ⟨.map 53 4, 1, 8, .map none⟩ -- map[api.Dot]bool
theorem tok197 : TOK Tryz.prog 197 ti197 := TOK.mk' (by kernel_rfl) (by kernel_rfl)
def ti208 : TI := ⟨.func, 1, 8, .nilFunc⟩ -- func([]event.written) []int
theorem tok208 : TOK Tryz.prog 208 ti208 := TOK.mk' (by kernel_rfl) (by kernel_rfl)
def ti209 : TI := ⟨.map 3 208, 1, 8, .map none⟩ -- map[int]func([]event.written) []int
theorem tok209 : TOK Tryz.prog 209 ti209 := TOK.mk' (by kernel_rfl) (by kernel_rfl)
def ti211 : TI := ⟨.slice 266, 1, 24, .slice none 0 0⟩ -- []event.written
theorem tok211 : TOK Tryz.prog 211 ti211 := TOK.mk' (by kernel_rfl) (by kernel_rfl)
def ti215 : TI := ⟨.int .u64, 1, 8, .int .u64 0⟩ -- uint
theorem tok215 : TOK Tryz.prog 215 ti215 := TOK.mk' (by kernel_rfl) (by kernel_rfl)
def ti218 : TI := ⟨.func, 1, 8, .nilFunc⟩ -- func(api.Event, api.Event) int
theorem tok218 : TOK Tryz.prog 218 ti218 := TOK.mk' (by kernel_rfl) (by kernel_rfl)
def ti220 : TI := ⟨.struct [(0, 3, 1), (1, 3, 1)], 2, 16, .agg #[.int .i64 0, .int .i64 0]⟩ -- api.Term
theorem tok220 : TOK Tryz.prog 220 ti220 := TOK.mk' (by kernel_rfl) (by kernel_rfl)
def ti221 : TI := ⟨.slice 220, 1, 24, .slice none 0 0⟩ -- []api.Term
theorem tok221 : TOK Tryz.prog 221 ti221 := TOK.mk' (by kernel_rfl) (by kernel_rfl)
def ti223 : TI := ⟨.struct [(0, 221, 1), (1, 3, 1)], 2, 32, .agg #[.slice none 0 0, .int .i64 0]⟩ -- api.Row
theorem tok223 : TOK Tryz.prog 223 ti223 := TOK.mk' (by kernel_rfl) (by kernel_rfl)
def ti225 : TI := ⟨.struct [(0, 3, 1), (1, 3, 1), (2, 223, 2), (4, 3, 1), (5, 3, 1)], 6, 64, .agg #[.int .i64 0, .int .i64 0, .slice none 0 0, .int .i64 0, .int .i64 0, .int .i64 0]⟩ -- api.Constraint
theorem tok225 : TOK Tryz.prog 225 ti225 := TOK.mk' (by kernel_rfl) (by kernel_rfl)
def ti227 : TI := ⟨.struct [(0, 9, 1), (1, 4, 1), (2, 22, 1)], 3, 48, .agg #[.string ⟨#[]⟩, .bool false, .slice none 0 0]⟩ -- api.Operation
theorem tok227 : TOK Tryz.prog 227 ti227 := TOK.mk' (by kernel_rfl) (by kernel_rfl)
def ti228 : TI := ⟨.map 53 37, 1, 8, .map none⟩ -- map[api.Dot]api.Event
theorem tok228 : TOK Tryz.prog 228 ti228 := TOK.mk' (by kernel_rfl) (by kernel_rfl)
def ti234 : TI := ⟨.struct [(0, 22, 1), (1, 228, 1)], 2, 32, .agg #[.slice none 0 0, .map none]⟩ -- delivery.Buffer
theorem tok234 : TOK Tryz.prog 234 ti234 := TOK.mk' (by kernel_rfl) (by kernel_rfl)
def ti236 : TI := ⟨.func, 1, 8, .nilFunc⟩ -- func(api.Span) bool
theorem tok236 : TOK Tryz.prog 236 ti236 := TOK.mk' (by kernel_rfl) (by kernel_rfl)
def ti248 : TI := ⟨.map 255 252, 1, 8, .map none⟩ -- map[merge.rule]func(merge.change) api.Errno
theorem tok248 : TOK Tryz.prog 248 ti248 := TOK.mk' (by kernel_rfl) (by kernel_rfl)
def ti250 : TI := ⟨.map 3 153, 1, 8, .map none⟩ -- map[int]api.Update
theorem tok250 : TOK Tryz.prog 250 ti250 := TOK.mk' (by kernel_rfl) (by kernel_rfl)
def ti252 : TI := ⟨.func, 1, 8, .nilFunc⟩ -- func(merge.change) api.Errno
theorem tok252 : TOK Tryz.prog 252 ti252 := TOK.mk' (by kernel_rfl) (by kernel_rfl)
def ti255 : TI := ⟨.struct [(0, 3, 1), (1, 3, 1)], 2, 16, .agg #[.int .i64 0, .int .i64 0]⟩ -- merge.rule
theorem tok255 : TOK Tryz.prog 255 ti255 := TOK.mk' (by kernel_rfl) (by kernel_rfl)
def ti256 : TI := ⟨.ptr 123, 1, 8, .pointer none⟩ -- *api.Merged
theorem tok256 : TOK Tryz.prog 256 ti256 := TOK.mk' (by kernel_rfl) (by kernel_rfl)
def ti258 : TI := ⟨.struct [(0, 256, 1), (1, 37, 13), (14, 125, 4)], 18, 160, .agg #[.pointer none, .int .i64 0, .int .i64 0, .int .i64 0, .slice none 0 0, .int .i64 0, .int .i64 0, .int .i64 0, .int .i64 0, .int .i64 0, .int .i64 0, .int .i64 0, .int .i64 0, .int .i64 0, .int .i64 0, .int .i64 0, .int .i64 0, .int .i64 0]⟩ -- merge.change
theorem tok258 : TOK Tryz.prog 258 ti258 := TOK.mk' (by kernel_rfl) (by kernel_rfl)
def ti266 : TI := ⟨.struct [(0, 37, 13), (13, 153, 3)], 16, 144, .agg #[.int .i64 0, .int .i64 0, .int .i64 0, .slice none 0 0, .int .i64 0, .int .i64 0, .int .i64 0, .int .i64 0, .int .i64 0, .int .i64 0, .int .i64 0, .int .i64 0, .int .i64 0, .int .i64 0, .int .i64 0, .int .i64 0]⟩ -- event.written
theorem tok266 : TOK Tryz.prog 266 ti266 := TOK.mk' (by kernel_rfl) (by kernel_rfl)
def ti268 : TI := ⟨.func, 1, 8, .nilFunc⟩ -- func(event.written) bool
theorem tok268 : TOK Tryz.prog 268 ti268 := TOK.mk' (by kernel_rfl) (by kernel_rfl)
def ti269 : TI := ⟨.func, 1, 8, .nilFunc⟩ -- func([]event.written, int) []event.written
theorem tok269 : TOK Tryz.prog 269 ti269 := TOK.mk' (by kernel_rfl) (by kernel_rfl)
def ti274 : TI := ⟨.func, 1, 8, .nilFunc⟩ -- func(event.written, event.written) int
theorem tok274 : TOK Tryz.prog 274 ti274 := TOK.mk' (by kernel_rfl) (by kernel_rfl)
def ti279 : TI := ⟨.int .i64, 1, 8, .int .i64 0⟩ -- slices.sortedHint
theorem tok279 : TOK Tryz.prog 279 ti279 := TOK.mk' (by kernel_rfl) (by kernel_rfl)
def ti287 : TI := ⟨.int .u32, 1, 4, .int .u32 0⟩ -- uint32
theorem tok287 : TOK Tryz.prog 287 ti287 := TOK.mk' (by kernel_rfl) (by kernel_rfl)
def ti289 : TI := ⟨.int .u64, 1, 8, .int .u64 0⟩ -- uint64
theorem tok289 : TOK Tryz.prog 289 ti289 := TOK.mk' (by kernel_rfl) (by kernel_rfl)
def ti296 : TI := ⟨.slice 155, 1, 24, .slice none 0 0⟩ -- []api.Range
theorem tok296 : TOK Tryz.prog 296 ti296 := TOK.mk' (by kernel_rfl) (by kernel_rfl)
def ti303 : TI := ⟨.struct [(0, 3, 1), (1, 3, 1), (2, 3, 1)], 3, 24, .agg #[.int .i64 0, .int .i64 0, .int .i64 0]⟩ -- api.Hide
theorem tok303 : TOK Tryz.prog 303 ti303 := TOK.mk' (by kernel_rfl) (by kernel_rfl)
def ti307 : TI := ⟨.func, 1, 8, .nilFunc⟩ -- func(api.Table, api.Merged) bool
theorem tok307 : TOK Tryz.prog 307 ti307 := TOK.mk' (by kernel_rfl) (by kernel_rfl)
def ti316 : TI := ⟨.int .u64, 1, 8, .int .u64 0⟩ -- slices.xorshift
theorem tok316 : TOK Tryz.prog 316 ti316 := TOK.mk' (by kernel_rfl) (by kernel_rfl)
def ti320 : TI := ⟨.ptr 3, 1, 8, .pointer none⟩ -- *int
theorem tok320 : TOK Tryz.prog 320 ti320 := TOK.mk' (by kernel_rfl) (by kernel_rfl)
def ti332 : TI := ⟨.func, 1, 8, .nilFunc⟩ -- func(api.Mark, api.Mark) int
theorem tok332 : TOK Tryz.prog 332 ti332 := TOK.mk' (by kernel_rfl) (by kernel_rfl)
def ti337 : TI := ⟨.func, 1, 8, .nilFunc⟩ -- func(api.Mark) bool
theorem tok337 : TOK Tryz.prog 337 ti337 := TOK.mk' (by kernel_rfl) (by kernel_rfl)
def ti343 : TI := ⟨.slice 347, 1, 24, .slice none 0 0⟩ -- []api.Token
theorem tok343 : TOK Tryz.prog 343 ti343 := TOK.mk' (by kernel_rfl) (by kernel_rfl)
def ti347 : TI := ⟨.struct [(0, 3, 1), (1, 3, 1), (2, 3, 1), (3, 3, 1)], 4, 32, .agg #[.int .i64 0, .int .i64 0, .int .i64 0, .int .i64 0]⟩ -- api.Token
theorem tok347 : TOK Tryz.prog 347 ti347 := TOK.mk' (by kernel_rfl) (by kernel_rfl)
def tyTab : List (Nat × TI) := [(3, ti3), (4, ti4), (5, ti5), (9, ti9), (22, ti22), (23, ti23), (24, ti24), (25, ti25), (26, ti26), (27, ti27), (28, ti28), (30, ti30), (31, ti31), (33, ti33), (35, ti35), (37, ti37), (40, ti40), (44, ti44), (48, ti48), (53, ti53), (58, ti58), (65, ti65), (71, ti71), (72, ti72), (73, ti73), (75, ti75), (80, ti80), (84, ti84), (86, ti86), (94, ti94), (102, ti102), (106, ti106), (121, ti121), (123, ti123), (125, ti125), (138, ti138), (145, ti145), (146, ti146), (147, ti147), (149, ti149), (151, ti151), (153, ti153), (155, ti155), (157, ti157), (160, ti160), (163, ti163), (165, ti165), (167, ti167), (169, ti169), (171, ti171), (175, ti175), (176, ti176), (177, ti177), (179, ti179), (181, ti181), (185, ti185), (196, ti196), (197, ti197), (208, ti208), (209, ti209), (211, ti211), (215, ti215), (218, ti218), (220, ti220), (221, ti221), (223, ti223), (225, ti225), (227, ti227), (228, ti228), (234, ti234), (236, ti236), (248, ti248), (250, ti250), (252, ti252), (255, ti255), (256, ti256), (258, ti258), (266, ti266), (268, ti268), (269, ti269), (274, ti274), (279, ti279), (287, ti287), (289, ti289), (296, ti296), (303, ti303), (307, ti307), (316, ti316), (320, ti320), (332, ti332), (337, ti337), (343, ti343), (347, ti347)]
theorem tyTab_ok : ∀ p ∈ tyTab, TOK Tryz.prog p.1 p.2 := by
 unfold tyTab
 repeat (first|exact List.forall_mem_nil _|refine List.forall_mem_cons.2 ⟨by first|exact tok3|exact tok4|exact tok5|exact tok9|exact tok22|exact tok23|exact tok24|exact tok25|exact tok26|exact tok27|exact tok28|exact tok30|exact tok31|exact tok33|exact tok35|exact tok37|exact tok40|exact tok44|exact tok48|exact tok53|exact tok58|exact tok65|exact tok71|exact tok72|exact tok73|exact tok75|exact tok80|exact tok84|exact tok86|exact tok94|exact tok102|exact tok106|exact tok121|exact tok123|exact tok125|exact tok138|exact tok145|exact tok146|exact tok147|exact tok149|exact tok151|exact tok153|exact tok155|exact tok157|exact tok160|exact tok163|exact tok165|exact tok167|exact tok169|exact tok171|exact tok175|exact tok176|exact tok177|exact tok179|exact tok181|exact tok185|exact tok196|exact tok197|exact tok208|exact tok209|exact tok211|exact tok215|exact tok218|exact tok220|exact tok221|exact tok223|exact tok225|exact tok227|exact tok228|exact tok234|exact tok236|exact tok248|exact tok250|exact tok252|exact tok255|exact tok256|exact tok258|exact tok266|exact tok268|exact tok269|exact tok274|exact tok279|exact tok287|exact tok289|exact tok296|exact tok303|exact tok307|exact tok316|exact tok320|exact tok332|exact tok337|exact tok343|exact tok347, ?_⟩)
def tt : Nat → Option TI := lookT tyTab
def en : Nat → Bool := fun f => Nat.ble 3 f && Nat.ble f 307 && !Nat.beq f 256 && !Nat.beq f 292
theorem pg : PgOK Tryz.prog tt en :=
 ⟨lookT_ok tyTab_ok, fun f h => entB_ok (by
  have k := List.all_eq_true.1 (show (List.range 308).all (fun f => !(Nat.ble 3 f && Nat.ble f 307 && !Nat.beq f 256 && !Nat.beq f 292) || entB Tryz.prog f) = true by kernel_rfl) f (List.mem_range.2 (by simp [en] at h;omega))
  have h2 : (Nat.ble 3 f && Nat.ble f 307 && !Nat.beq f 256 && !Nat.beq f 292) = true := h
  rw [h2] at k;simpa using k), by kernel_rfl⟩
abbrev ordZ : Nat → Ord × (Nat → Cls) := fun _ => (.done, clOf [])
def ord5 : Nat → Ord × (Nat → Cls) := fun id => bif Nat.beq id 13 then (.one 0 (.one 1 (.one 2 (.one 3 (.one 4 (.one 5 (.one 8 (.one 6 (.one 7 .done)))))))), clOf [.pure, .pure, .pure, .pure, .pure, .pure, .ext, .pure, .pure]) else (.done, clOf [])
abbrev ord16 := ordZ
def ord19 : Nat → Ord × (Nat → Cls) := fun id => bif Nat.beq id 6 then (.one 0 (.one 1 (.one 2 (.one 3 (.one 4 (.one 5 (.one 6 (.one 7 (.one 8 .done)))))))), clOf [.pure, .pure, .pure, .read, .pure, .pure, .pure, .read, .pure]) else (.done, clOf [])
def ord20 : Nat → Ord × (Nat → Cls) := fun id => bif Nat.beq id 1 then (.one 0 (.one 1 (.one 2 (.one 3 (.one 4 (.one 5 (.one 6 (.one 7 (.one 8 (.one 9 (.one 10 (.one 11 (.one 12 (.one 13 (.one 14 (.one 15 (.one 16 (.one 17 (.one 18 (.one 19 (.one 20 (.one 21 (.one 22 (.one 23 (.one 24 (.one 25 (.one 26 (.one 27 (.one 28 (.one 29 (.one 30 (.one 31 (.one 32 (.one 33 (.one 34 (.one 35 (.one 36 .done)))))))))))))))))))))))))))))))))))), clOf [.pure, .read, .loud, .pure, .pure, .pure, .read, .pure, .read, .pure, .pure, .loud, .pure, .pure, .pure, .pure, .read, .pure, .read, .pure, .read, .pure, .read, .pure, .pure, .pure, .pure, .pure, .read, .pure, .pure, .pure, .pure, .read, .loud, .pure, .pure]) else bif Nat.beq id 3 then (.one 0 (.one 2 (.one 3 (.one 1 (.one 4 (.one 5 (.one 6 (.one 7 (.one 8 (.one 9 .done))))))))), clOf [.read, .ext, .pure, .read, .read, .pure, .pure, .pure, .pure, .pure]) else (.done, clOf [])
def ord21 : Nat → Ord × (Nat → Cls) := fun id => bif Nat.beq id 3 then (.one 0 (.one 1 (.one 2 (.one 3 (.one 4 (.one 5 (.one 6 (.one 7 (.one 8 .done)))))))), clOf [.pure, .pure, .pure, .pure, .read, .read, .ext, .loud, .pure]) else bif Nat.beq id 5 then (.one 0 (.one 1 (.one 2 (.one 3 (.one 4 (.one 5 (.one 6 (.one 7 (.one 8 (.one 9 (.one 10 .done)))))))))), clOf [.pure, .pure, .pure, .pure, .read, .pure, .read, .loud, .pure, .pure, .pure]) else bif Nat.beq id 7 then (.one 0 (.one 1 (.one 2 (.one 3 (.one 4 (.one 5 (.one 6 (.one 7 (.one 8 .done)))))))), clOf [.pure, .read, .pure, .pure, .pure, .read, .pure, .ext, .pure]) else bif Nat.beq id 16 then (.one 0 (.one 1 (.one 2 (.one 3 (.one 4 (.one 5 (.one 6 (.one 7 (.one 8 (.one 9 (.one 10 (.one 11 .done))))))))))), clOf [.pure, .pure, .pure, .pure, .read, .read, .ext, .ext, .loud, .pure, .pure, .loud]) else (.done, clOf [])
def ord23 : Nat → Ord × (Nat → Cls) := fun id => bif Nat.beq id 1 then (.one 0 (.one 1 (.one 2 (.one 3 (.one 4 (.one 5 (.one 6 (.one 7 (.one 8 (.one 9 (.one 10 (.one 11 (.one 12 (.one 13 (.one 14 (.one 15 (.one 16 (.one 17 (.one 18 (.one 19 (.one 20 (.one 21 (.one 22 (.one 23 (.one 24 (.one 25 (.one 26 (.one 27 (.one 28 (.one 29 .done))))))))))))))))))))))))))))), clOf [.pure, .loud, .pure, .pure, .read, .pure, .pure, .pure, .pure, .read, .pure, .pure, .pure, .pure, .pure, .pure, .read, .pure, .pure, .pure, .pure, .read, .pure, .pure, .read, .pure, .read, .pure, .pure, .pure]) else (.done, clOf [])
abbrev ord24 := ordZ
abbrev ord25 := ordZ
def ord26 : Nat → Ord × (Nat → Cls) := fun id => bif Nat.beq id 11 then (.one 0 (.one 1 (.one 2 (.one 3 (.one 4 (.one 5 (.one 6 (.one 7 (.one 8 (.one 9 (.one 10 (.one 11 (.one 12 (.one 13 (.one 14 (.one 15 (.one 16 (.one 17 (.one 18 (.one 19 (.one 20 (.one 21 (.one 22 (.one 23 (.one 24 (.one 25 (.one 26 (.one 27 (.one 28 (.one 29 (.one 30 (.one 31 (.one 32 (.one 33 (.one 34 (.one 35 (.one 36 (.one 37 (.one 38 (.one 39 (.one 40 (.one 41 (.one 42 .done)))))))))))))))))))))))))))))))))))))))))), clOf [.pure, .read, .pure, .pure, .pure, .read, .pure, .pure, .pure, .pure, .read, .pure, .pure, .pure, .read, .pure, .pure, .pure, .pure, .read, .pure, .pure, .pure, .read, .pure, .pure, .pure, .pure, .read, .pure, .pure, .pure, .pure, .read, .pure, .read, .pure, .pure, .pure, .pure, .read, .pure, .pure]) else bif Nat.beq id 13 then (.one 0 (.one 2 (.one 1 (.one 3 (.one 4 (.one 5 (.one 6 .done)))))), clOf [.read, .ext, .read, .loud, .pure, .pure, .pure]) else (.done, clOf [])
def ord27 : Nat → Ord × (Nat → Cls) := fun id => bif Nat.beq id 6 then (.one 0 (.one 1 (.one 2 (.one 3 (.one 4 (.one 5 (.one 6 (.one 7 (.one 8 (.one 9 .done))))))))), clOf [.pure, .read, .pure, .read, .pure, .pure, .read, .loud, .pure, .pure]) else (.done, clOf [])
abbrev ord28 := ordZ
abbrev ord29 := ordZ
abbrev ord31 := ordZ
abbrev ord32 := ordZ
abbrev ord33 := ordZ
abbrev ord36 := ordZ
def ord37 : Nat → Ord × (Nat → Cls) := fun id => bif Nat.beq id 3 then (.one 0 (.one 3 (.one 5 (.alt 1 (.one 2 (.one 4 (.one 6 (.one 7 (.one 8 (.one 9 (.one 10 .done))))))) (.alt 2 (.one 1 (.one 4 (.one 6 (.one 7 (.one 8 (.one 9 (.one 10 .done))))))) (.none))))), clOf [.pure, .ext, .ext, .pure, .ext, .read, .loud, .pure, .pure, .loud, .pure]) else (.done, clOf [])
abbrev ord38 := ordZ
def ord39 : Nat → Ord × (Nat → Cls) := fun id => bif Nat.beq id 7 then (.one 0 (.one 1 (.one 2 (.one 3 (.one 4 (.one 5 (.one 6 .done)))))), clOf [.pure, .pure, .pure, .read, .read, .loud, .pure]) else bif Nat.beq id 9 then (.one 0 (.one 1 (.one 2 (.one 3 (.one 4 (.one 5 (.one 6 (.one 7 (.one 8 (.one 9 (.one 10 .done)))))))))), clOf [.pure, .pure, .pure, .read, .read, .loud, .pure, .pure, .pure, .pure, .pure]) else bif Nat.beq id 13 then (.one 0 (.one 1 (.one 2 (.one 3 (.one 4 (.one 5 (.one 6 .done)))))), clOf [.pure, .pure, .pure, .read, .read, .loud, .pure]) else (.done, clOf [])
def ord40 : Nat → Ord × (Nat → Cls) := fun id => bif Nat.beq id 7 then (.one 0 (.one 1 (.one 2 (.one 3 (.one 4 (.one 5 (.one 6 (.one 7 (.one 8 (.one 9 (.one 10 .done)))))))))), clOf [.read, .pure, .pure, .read, .pure, .pure, .pure, .pure, .read, .loud, .pure]) else bif Nat.beq id 9 then (.one 0 (.one 1 (.one 2 (.one 3 (.one 4 (.one 5 (.alt 6 (.one 7 (.one 8 (.one 9 (.one 10 (.one 11 (.one 12 (.one 13 (.one 14 .done)))))))) (.alt 11 (.one 6 (.one 7 (.one 8 (.one 9 (.one 10 (.one 12 (.one 13 (.one 14 .done)))))))) (.none)))))))), clOf [.pure, .read, .pure, .pure, .pure, .read, .loud, .pure, .pure, .pure, .pure, .ext, .loud, .pure, .pure]) else bif Nat.beq id 14 then (.one 0 (.one 1 (.one 2 (.one 3 (.one 4 (.one 5 (.one 6 (.alt 7 (.one 8 (.one 9 (.one 10 (.one 11 (.one 12 (.one 13 .done)))))) (.alt 11 (.one 7 (.one 8 (.one 9 (.one 10 (.one 12 (.one 13 .done)))))) (.none))))))))), clOf [.read, .pure, .read, .pure, .pure, .pure, .read, .loud, .pure, .pure, .pure, .ext, .loud, .pure]) else (.done, clOf [])
def ord41 : Nat → Ord × (Nat → Cls) := fun id => bif Nat.beq id 6 then (.one 0 (.one 1 (.one 2 (.one 3 (.one 4 (.one 5 (.one 6 (.one 7 (.one 8 (.one 9 .done))))))))), clOf [.pure, .pure, .pure, .read, .pure, .pure, .pure, .read, .loud, .pure]) else (.done, clOf [])
abbrev ord44 := ordZ
abbrev ord47 := ordZ
def ord51 : Nat → Ord × (Nat → Cls) := fun id => bif Nat.beq id 19 then (.one 0 (.one 1 (.one 2 (.one 3 (.one 4 (.one 5 (.one 6 (.one 7 (.one 8 (.one 9 (.one 10 (.one 11 (.one 12 (.one 13 (.one 14 (.one 15 (.one 16 (.one 17 (.one 18 (.one 19 (.one 20 (.one 21 (.one 22 (.one 23 .done))))))))))))))))))))))), clOf [.pure, .pure, .pure, .pure, .pure, .pure, .pure, .pure, .read, .pure, .read, .pure, .pure, .pure, .pure, .pure, .pure, .pure, .pure, .read, .pure, .pure, .pure, .pure]) else (.done, clOf [])
abbrev ord52 := ordZ
def ord56 : Nat → Ord × (Nat → Cls) := fun id => bif Nat.beq id 12 then (.one 0 (.one 1 (.one 2 (.one 3 (.one 4 (.one 5 (.one 6 (.one 7 (.one 8 (.one 9 (.one 10 (.one 11 (.one 12 (.one 13 (.one 14 (.one 15 (.one 16 (.one 17 .done))))))))))))))))), clOf [.pure, .read, .pure, .pure, .read, .read, .loud, .pure, .pure, .read, .pure, .pure, .pure, .read, .pure, .read, .pure, .pure]) else bif Nat.beq id 19 then (.one 1 (.one 2 (.one 4 (.alt 0 (.alt 3 (.one 5 (.one 6 (.one 7 (.one 8 .done)))) (.alt 5 (.one 3 (.one 6 (.one 7 (.one 8 .done)))) (.none))) (.alt 5 (.one 0 (.one 3 (.one 6 (.one 7 (.one 8 .done))))) (.none))))), clOf [.ext, .pure, .read, .ext, .read, .ext, .loud, .pure, .loud]) else (.done, clOf [])
abbrev ord63 := ordZ
abbrev ord74 := ordZ
def ord75 : Nat → Ord × (Nat → Cls) := fun id => bif Nat.beq id 4 then (.one 0 (.one 1 (.one 2 (.one 3 (.one 4 (.one 5 (.one 6 (.one 7 (.one 8 .done)))))))), clOf [.pure, .pure, .pure, .read, .pure, .pure, .pure, .read, .pure]) else (.done, clOf [])
def ord77 : Nat → Ord × (Nat → Cls) := fun id => bif Nat.beq id 3 then (.one 0 (.one 1 (.one 3 (.one 4 (.one 2 (.one 5 (.one 6 (.one 7 (.one 8 (.one 9 .done))))))))), clOf [.read, .pure, .ext, .pure, .read, .ext, .pure, .loud, .pure, .pure]) else (.done, clOf [])
abbrev ord80 := ordZ
def ord81 : Nat → Ord × (Nat → Cls) := fun id => bif Nat.beq id 6 then (.one 0 (.one 1 (.one 2 (.one 3 (.one 4 (.one 5 (.one 6 (.one 7 (.one 8 (.one 9 (.one 10 (.one 11 (.one 12 (.one 13 (.one 14 (.one 15 (.one 16 (.one 17 (.one 18 .done)))))))))))))))))), clOf [.pure, .read, .pure, .read, .pure, .pure, .read, .loud, .pure, .pure, .pure, .read, .pure, .pure, .pure, .read, .loud, .pure, .pure]) else (.done, clOf [])
abbrev ord83 := ordZ
abbrev ord84 := ordZ
abbrev ord85 := ordZ
abbrev ord86 := ordZ
def ord87 : Nat → Ord × (Nat → Cls) := fun id => bif Nat.beq id 1 then (.one 0 (.one 1 (.one 2 (.one 3 (.one 4 (.one 5 (.one 6 (.one 7 (.one 8 (.one 9 (.one 10 (.one 11 (.one 12 .done)))))))))))), clOf [.pure, .pure, .pure, .read, .pure, .pure, .pure, .pure, .read, .pure, .read, .loud, .pure]) else (.done, clOf [])
abbrev ord88 := ordZ
def ord89 : Nat → Ord × (Nat → Cls) := fun id => bif Nat.beq id 7 then (.one 0 (.one 1 (.one 2 (.one 3 (.one 4 (.one 5 (.one 6 (.one 7 (.one 8 .done)))))))), clOf [.pure, .pure, .pure, .read, .pure, .pure, .pure, .read, .pure]) else bif Nat.beq id 8 then (.one 0 (.one 1 (.one 2 (.one 3 (.one 4 (.one 5 (.one 6 (.one 7 (.one 8 (.one 9 (.one 10 (.one 11 (.one 12 (.one 13 (.one 14 .done)))))))))))))), clOf [.pure, .pure, .pure, .pure, .pure, .read, .pure, .pure, .pure, .pure, .read, .pure, .ext, .loud, .pure]) else (.done, clOf [])
def ord90 : Nat → Ord × (Nat → Cls) := fun id => bif Nat.beq id 2 then (.one 0 (.one 1 (.one 2 (.one 3 (.one 4 (.one 5 (.one 6 (.one 7 (.one 8 (.one 9 (.one 10 (.one 11 (.one 12 (.one 13 (.one 14 (.one 15 (.one 16 (.one 17 (.one 18 (.one 19 (.one 20 (.one 21 (.one 22 (.one 23 (.one 24 (.one 25 (.one 26 (.one 27 (.one 28 (.one 29 .done))))))))))))))))))))))))))))), clOf [.pure, .pure, .pure, .pure, .read, .pure, .pure, .pure, .pure, .read, .pure, .pure, .pure, .pure, .read, .pure, .pure, .pure, .pure, .read, .pure, .read, .pure, .pure, .pure, .pure, .read, .pure, .pure, .loud]) else (.done, clOf [])
def ord91 : Nat → Ord × (Nat → Cls) := fun id => bif Nat.beq id 4 then (.one 0 (.one 1 (.one 2 (.one 3 (.one 4 (.one 5 (.one 6 (.one 7 (.one 8 (.one 9 (.one 10 (.one 11 (.one 12 (.one 13 (.one 14 (.one 15 (.one 16 (.one 17 .done))))))))))))))))), clOf [.pure, .pure, .pure, .pure, .read, .read, .ext, .loud, .pure, .pure, .read, .pure, .pure, .pure, .pure, .read, .pure, .pure]) else bif Nat.beq id 7 then (.one 0 (.one 1 (.one 2 (.one 3 (.one 4 (.one 5 (.one 6 (.one 7 (.one 8 (.one 9 (.one 10 (.one 11 (.one 12 (.one 13 (.one 14 (.one 15 .done))))))))))))))), clOf [.pure, .pure, .pure, .pure, .pure, .read, .pure, .pure, .pure, .pure, .read, .pure, .pure, .pure, .pure, .loud]) else (.done, clOf [])
def ord92 : Nat → Ord × (Nat → Cls) := fun id => bif Nat.beq id 4 then (.one 0 (.one 1 (.one 2 (.one 3 (.one 4 (.one 5 (.one 6 (.one 7 (.one 8 (.one 9 (.one 10 (.one 11 (.one 12 (.one 13 (.one 14 (.one 15 (.one 16 (.one 17 (.one 18 .done)))))))))))))))))), clOf [.pure, .pure, .pure, .read, .pure, .pure, .pure, .read, .pure, .pure, .pure, .pure, .read, .pure, .pure, .pure, .read, .pure, .pure]) else bif Nat.beq id 7 then (.one 0 (.one 1 (.one 2 (.one 3 (.one 4 (.one 5 (.one 6 (.one 7 (.one 8 (.one 9 (.one 10 (.one 11 (.one 12 (.one 13 .done))))))))))))), clOf [.pure, .pure, .pure, .pure, .read, .pure, .read, .pure, .read, .pure, .read, .pure, .pure, .loud]) else (.done, clOf [])
def ord93 : Nat → Ord × (Nat → Cls) := fun id => bif Nat.beq id 1 then (.one 0 (.one 1 (.one 2 (.one 3 (.one 4 (.one 5 (.one 6 (.one 7 (.one 8 (.one 9 (.one 10 (.one 11 (.one 12 (.one 13 (.one 14 (.one 15 (.one 16 (.one 17 (.one 18 (.one 19 (.one 20 (.one 21 .done))))))))))))))))))))), clOf [.pure, .pure, .pure, .read, .pure, .pure, .read, .pure, .pure, .pure, .pure, .read, .pure, .pure, .pure, .read, .loud, .pure, .pure, .pure, .pure, .pure]) else (.done, clOf [])
def ord94 : Nat → Ord × (Nat → Cls) := fun id => bif Nat.beq id 2 then (.one 0 (.one 1 (.one 2 (.one 3 (.one 4 (.one 5 (.one 6 (.one 7 (.one 8 (.one 9 (.one 10 (.one 11 (.one 12 (.one 13 (.one 14 (.one 15 .done))))))))))))))), clOf [.pure, .pure, .pure, .pure, .pure, .read, .pure, .pure, .pure, .pure, .read, .loud, .pure, .pure, .pure, .loud]) else (.done, clOf [])
abbrev ord95 := ordZ
abbrev ord97 := ordZ
abbrev ord98 := ordZ
abbrev ord99 := ordZ
def ord100 : Nat → Ord × (Nat → Cls) := fun id => bif Nat.beq id 5 then (.one 0 (.one 1 (.one 2 (.one 3 (.one 4 (.one 5 (.one 6 (.one 7 (.one 8 (.one 9 (.one 10 (.one 11 (.one 12 (.one 13 (.one 14 (.one 15 (.one 16 .done)))))))))))))))), clOf [.pure, .read, .pure, .pure, .read, .pure, .pure, .pure, .read, .pure, .pure, .read, .pure, .read, .pure, .pure, .pure]) else bif Nat.beq id 7 then (.one 0 (.one 1 (.one 2 (.one 3 (.one 4 (.one 5 (.one 6 (.one 7 (.one 8 (.one 9 (.one 10 (.one 11 .done))))))))))), clOf [.pure, .pure, .read, .pure, .read, .pure, .pure, .read, .pure, .read, .pure, .pure]) else (.done, clOf [])
abbrev ord101 := ordZ
abbrev ord102 := ordZ
abbrev ord103 := ordZ
abbrev ord104 := ordZ
abbrev ord105 := ordZ
def ord106 : Nat → Ord × (Nat → Cls) := fun id => bif Nat.beq id 1 then (.one 0 (.one 1 (.one 3 (.one 4 (.one 5 (.one 6 (.one 8 (.one 9 (.one 11 (.one 12 (.one 2 (.one 7 (.one 10 (.one 13 (.one 14 (.one 15 .done))))))))))))))), clOf [.pure, .read, .ext, .pure, .read, .pure, .read, .ext, .pure, .read, .ext, .pure, .read, .ext, .pure, .loud]) else (.done, clOf [])
abbrev ord107 := ordZ
abbrev ord108 := ordZ
abbrev ord109 := ordZ
def ord110 : Nat → Ord × (Nat → Cls) := fun id => bif Nat.beq id 1 then (.one 0 (.one 1 (.one 2 (.one 3 (.one 4 (.alt 5 (.one 6 (.one 7 (.one 8 (.one 9 (.one 10 (.one 11 (.one 12 .done))))))) (.alt 10 (.one 5 (.one 6 (.one 7 (.one 8 (.one 9 (.one 11 (.one 12 .done))))))) (.none))))))), clOf [.pure, .pure, .pure, .read, .read, .ext, .read, .pure, .pure, .pure, .ext, .loud, .pure]) else bif Nat.beq id 2 then (.one 0 (.one 1 (.one 2 (.one 3 (.one 4 (.one 5 (.one 6 (.one 7 (.one 8 (.one 9 (.one 10 (.one 11 (.one 12 (.one 13 (.one 14 .done)))))))))))))), clOf [.read, .loud, .pure, .pure, .pure, .read, .pure, .pure, .pure, .pure, .read, .pure, .pure, .pure, .pure]) else bif Nat.beq id 4 then (.one 0 (.one 1 (.one 2 (.one 3 (.one 4 (.one 5 (.one 6 (.one 7 (.one 8 (.one 9 (.one 10 .done)))))))))), clOf [.pure, .pure, .pure, .pure, .pure, .read, .read, .ext, .loud, .pure, .pure]) else bif Nat.beq id 11 then (.one 0 (.one 1 (.one 2 (.one 3 (.one 4 (.one 6 (.one 5 (.one 7 (.one 8 .done)))))))), clOf [.pure, .pure, .pure, .read, .read, .ext, .read, .ext, .loud]) else (.done, clOf [])
abbrev ord111 := ordZ
def ord112 : Nat → Ord × (Nat → Cls) := fun id => bif Nat.beq id 3 then (.one 0 (.one 1 (.one 2 (.one 3 (.one 4 (.one 5 .done))))), clOf [.pure, .read, .read, .ext, .loud, .pure]) else bif Nat.beq id 7 then (.one 0 (.one 1 (.one 2 (.one 3 (.one 4 (.one 5 (.one 6 (.one 8 (.one 7 (.one 9 (.one 10 (.one 11 (.one 12 .done)))))))))))), clOf [.pure, .pure, .pure, .read, .pure, .pure, .read, .ext, .read, .loud, .pure, .pure, .pure]) else bif Nat.beq id 11 then (.one 0 (.one 1 (.one 3 (.alt 2 (.alt 4 (.alt 5 (.one 6 (.one 7 (.one 8 (.one 9 (.one 10 (.one 11 .done)))))) (.alt 9 (.one 5 (.one 6 (.one 7 (.one 8 (.one 10 (.one 11 .done)))))) (.none))) (.alt 9 (.one 4 (.one 5 (.one 6 (.one 7 (.one 8 (.one 10 (.one 11 .done))))))) (.none))) (.alt 4 (.alt 2 (.alt 5 (.one 6 (.one 7 (.one 8 (.one 9 (.one 10 (.one 11 .done)))))) (.alt 9 (.one 5 (.one 6 (.one 7 (.one 8 (.one 10 (.one 11 .done)))))) (.none))) (.alt 9 (.one 2 (.one 5 (.one 6 (.one 7 (.one 8 (.one 10 (.one 11 .done))))))) (.none))) (.alt 9 (.alt 2 (.one 4 (.one 5 (.one 6 (.one 7 (.one 8 (.one 10 (.one 11 .done))))))) (.alt 4 (.one 2 (.one 5 (.one 6 (.one 7 (.one 8 (.one 10 (.one 11 .done))))))) (.none))) (.none)))))), clOf [.read, .read, .ext, .read, .ext, .loud, .pure, .pure, .pure, .ext, .loud, .pure]) else bif Nat.beq id 15 then (.one 1 (.one 2 (.one 4 (.alt 0 (.alt 3 (.one 5 (.one 6 (.one 7 (.one 8 (.one 9 .done))))) (.alt 5 (.one 3 (.one 6 (.one 7 (.one 8 (.one 9 .done))))) (.none))) (.alt 5 (.one 0 (.one 3 (.one 6 (.one 7 (.one 8 (.one 9 .done)))))) (.none))))), clOf [.ext, .pure, .read, .ext, .read, .ext, .loud, .loud, .pure, .loud]) else (.done, clOf [])
abbrev ord113 := ordZ
abbrev ord114 := ordZ
abbrev ord115 := ordZ
abbrev ord116 := ordZ
abbrev ord120 := ordZ
def ord122 : Nat → Ord × (Nat → Cls) := fun id => bif Nat.beq id 1 then (.one 0 (.one 1 (.one 2 (.one 3 (.one 4 (.one 5 (.one 6 (.one 7 (.one 8 (.one 9 (.one 10 (.one 11 (.one 12 (.one 13 (.one 14 (.one 15 (.one 16 (.one 17 (.one 18 (.one 19 (.one 20 (.one 21 (.one 22 (.one 23 (.one 24 (.one 25 (.one 26 (.one 27 (.one 28 (.one 29 .done))))))))))))))))))))))))))))), clOf [.pure, .loud, .pure, .pure, .read, .pure, .pure, .pure, .pure, .read, .pure, .pure, .pure, .pure, .pure, .pure, .read, .pure, .pure, .pure, .pure, .read, .pure, .pure, .read, .pure, .read, .pure, .pure, .pure]) else (.done, clOf [])
def ord123 : Nat → Ord × (Nat → Cls) := fun id => bif Nat.beq id 1 then (.one 0 (.one 1 (.one 2 (.one 3 (.one 4 (.one 5 (.one 6 (.one 7 (.one 8 (.one 9 (.one 10 (.one 11 (.one 12 (.one 13 .done))))))))))))), clOf [.read, .loud, .pure, .read, .loud, .pure, .pure, .pure, .read, .read, .ext, .loud, .pure, .pure]) else (.done, clOf [])
abbrev ord126 := ordZ
def ord129 : Nat → Ord × (Nat → Cls) := fun id => bif Nat.beq id 6 then (.one 0 (.one 1 (.one 2 (.one 3 (.one 4 (.one 5 (.one 6 (.one 7 (.one 8 .done)))))))), clOf [.pure, .pure, .pure, .read, .pure, .pure, .pure, .read, .pure]) else (.done, clOf [])
def ord131 : Nat → Ord × (Nat → Cls) := fun id => bif Nat.beq id 19 then (.one 0 (.one 1 (.one 2 (.one 3 (.one 4 (.one 5 (.one 6 (.one 7 (.one 8 (.one 9 (.one 10 (.one 11 (.one 12 (.one 13 .done))))))))))))), clOf [.pure, .pure, .pure, .read, .pure, .read, .pure, .read, .pure, .read, .pure, .pure, .ext, .loud]) else (.done, clOf [])
abbrev ord132 := ordZ
abbrev ord133 := ordZ
abbrev ord143 := ordZ
def ord144 : Nat → Ord × (Nat → Cls) := fun id => bif Nat.beq id 1 then (.one 0 (.one 1 (.one 2 (.one 3 (.one 5 (.one 6 (.one 7 (.one 8 (.one 10 (.one 11 (.one 12 (.one 13 (.one 4 (.one 9 (.one 14 (.one 15 (.one 16 (.one 17 .done))))))))))))))))), clOf [.pure, .read, .pure, .read, .ext, .pure, .read, .pure, .read, .ext, .pure, .read, .pure, .read, .loud, .ext, .loud, .pure]) else (.done, clOf [])
abbrev ord145 := ordZ
abbrev ord146 := ordZ
def ord147 : Nat → Ord × (Nat → Cls) := fun id => bif Nat.beq id 1 then (.one 0 (.one 1 (.one 2 (.one 3 (.one 4 (.one 5 (.one 6 (.one 7 (.one 8 (.one 9 (.one 10 (.one 11 (.one 12 (.one 13 (.one 14 (.one 15 (.one 16 (.one 17 (.one 18 (.one 19 (.one 20 (.one 21 (.one 22 (.one 23 (.one 24 (.one 25 (.one 26 (.one 27 (.one 28 (.one 29 (.one 30 (.one 31 (.one 32 (.one 33 (.one 34 (.one 35 (.one 36 (.one 37 (.one 38 (.one 39 (.one 40 (.one 41 (.one 42 (.one 43 .done))))))))))))))))))))))))))))))))))))))))))), clOf [.pure, .read, .loud, .pure, .pure, .pure, .read, .pure, .pure, .pure, .pure, .read, .pure, .read, .pure, .pure, .pure, .pure, .pure, .read, .pure, .read, .pure, .read, .pure, .read, .pure, .pure, .pure, .pure, .pure, .read, .pure, .pure, .pure, .pure, .read, .pure, .pure, .pure, .pure, .read, .pure, .pure]) else (.done, clOf [])
abbrev ord148 := ordZ
abbrev ord149 := ordZ
abbrev ord150 := ordZ
def ord152 : Nat → Ord × (Nat → Cls) := fun id => bif Nat.beq id 6 then (.one 0 (.one 1 (.one 2 (.one 3 (.one 4 (.one 5 (.one 6 (.one 7 (.one 8 (.one 9 (.one 10 (.one 11 (.one 12 (.one 13 .done))))))))))))), clOf [.pure, .pure, .pure, .pure, .pure, .pure, .read, .pure, .pure, .pure, .pure, .read, .loud, .pure]) else bif Nat.beq id 9 then (.one 0 (.one 1 (.one 2 (.one 3 (.one 4 (.one 5 (.one 6 (.one 9 (.one 7 (.one 8 (.one 10 (.one 11 .done))))))))))), clOf [.pure, .pure, .pure, .pure, .pure, .pure, .read, .ext, .loud, .pure, .loud, .pure]) else (.done, clOf [])
abbrev ord153 := ordZ
abbrev ord154 := ordZ
abbrev ord155 := ordZ
abbrev ord156 := ordZ
def ord157 : Nat → Ord × (Nat → Cls) := fun id => bif Nat.beq id 11 then (.one 0 (.one 1 (.one 2 (.one 3 (.one 4 (.one 5 (.one 6 (.one 7 .done))))))), clOf [.pure, .pure, .pure, .pure, .read, .pure, .read, .pure]) else (.done, clOf [])
def ord158 : Nat → Ord × (Nat → Cls) := fun id => bif Nat.beq id 4 then (.one 0 (.one 1 (.one 2 (.one 3 (.one 4 (.one 5 (.one 6 (.one 7 (.one 8 (.one 9 (.one 10 (.one 11 (.one 12 (.one 13 (.one 14 (.one 15 .done))))))))))))))), clOf [.pure, .pure, .pure, .read, .loud, .pure, .pure, .pure, .pure, .pure, .pure, .pure, .pure, .read, .loud, .pure]) else (.done, clOf [])
def ord159 : Nat → Ord × (Nat → Cls) := fun id => bif Nat.beq id 9 then (.one 0 (.one 1 (.one 2 (.one 3 (.one 4 (.one 5 (.one 6 (.one 7 (.one 8 (.one 9 (.one 10 (.one 11 (.one 12 (.one 13 (.one 14 (.one 15 (.one 16 (.one 17 (.one 18 (.one 19 (.one 20 (.one 21 (.one 22 .done)))))))))))))))))))))), clOf [.pure, .read, .pure, .pure, .pure, .pure, .read, .read, .loud, .pure, .pure, .pure, .read, .pure, .pure, .pure, .pure, .pure, .read, .read, .loud, .pure, .pure]) else (.done, clOf [])
def ord160 : Nat → Ord × (Nat → Cls) := fun id => bif Nat.beq id 10 then (.one 0 (.one 1 (.one 2 (.one 3 (.one 4 (.one 5 (.one 6 (.one 7 (.one 8 (.one 9 (.one 10 (.one 11 (.one 12 (.one 13 (.one 14 (.one 15 (.one 16 .done)))))))))))))))), clOf [.pure, .read, .pure, .pure, .read, .pure, .pure, .pure, .read, .pure, .pure, .read, .pure, .read, .pure, .pure, .pure]) else bif Nat.beq id 20 then (.one 0 (.one 1 (.one 2 (.one 3 (.one 4 (.one 5 (.one 6 (.one 7 (.one 8 (.one 9 (.one 10 (.one 11 (.one 12 (.one 13 (.one 14 (.one 15 (.one 16 (.one 17 (.one 18 (.one 19 (.one 20 (.one 21 (.one 22 (.one 23 (.one 24 .done)))))))))))))))))))))))), clOf [.pure, .read, .pure, .pure, .pure, .read, .pure, .read, .pure, .pure, .pure, .pure, .pure, .read, .pure, .pure, .read, .pure, .read, .pure, .pure, .read, .pure, .pure, .pure]) else bif Nat.beq id 26 then (.one 0 (.one 1 (.one 2 (.one 3 (.one 4 (.one 5 (.one 6 (.one 7 (.one 8 (.one 9 (.one 10 (.one 11 (.one 12 (.one 13 (.one 14 (.one 15 (.one 16 (.one 17 (.one 18 (.one 19 (.one 20 (.one 21 (.one 22 (.one 23 (.one 24 (.one 25 (.one 26 (.one 27 (.one 28 (.one 29 (.one 30 (.one 31 (.one 32 (.one 33 (.one 34 (.one 35 .done))))))))))))))))))))))))))))))))))), clOf [.pure, .pure, .pure, .pure, .read, .pure, .pure, .read, .loud, .pure, .pure, .pure, .pure, .pure, .pure, .pure, .read, .pure, .pure, .read, .pure, .pure, .pure, .read, .pure, .pure, .read, .pure, .read, .pure, .pure, .read, .pure, .pure, .pure, .pure]) else (.done, clOf [])
def ord161 : Nat → Ord × (Nat → Cls) := fun id => bif Nat.beq id 9 then (.one 0 (.one 1 (.one 2 (.one 3 (.one 4 (.one 5 (.one 6 (.one 7 (.one 8 (.one 9 (.one 10 (.one 11 (.alt 12 (.one 13 (.one 14 (.one 15 .done))) (.alt 13 (.one 12 (.one 14 (.one 15 .done))) (.none)))))))))))))), clOf [.pure, .read, .pure, .read, .pure, .read, .pure, .read, .pure, .read, .pure, .read, .ext, .ext, .ext, .ext, .ext]) else bif Nat.beq id 10 then (.one 0 (.one 1 (.one 2 (.one 3 (.one 4 (.one 5 (.one 6 (.one 7 (.one 8 (.one 9 (.one 10 (.one 11 (.one 12 (.one 13 (.one 14 (.one 15 (.one 16 (.one 17 (.one 18 (.one 19 (.one 20 (.one 21 (.one 22 (.one 23 (.one 24 (.one 25 (.one 26 (.one 27 (.one 28 (.one 29 (.one 30 (.one 31 (.one 32 (.one 33 (.one 34 (.one 35 (.one 36 (.one 37 (.one 38 (.one 39 .done))))))))))))))))))))))))))))))))))))))), clOf [.pure, .read, .pure, .pure, .pure, .read, .pure, .pure, .pure, .pure, .read, .pure, .pure, .pure, .pure, .read, .pure, .read, .pure, .pure, .pure, .pure, .pure, .read, .pure, .pure, .pure, .pure, .pure, .read, .pure, .read, .pure, .read, .pure, .read, .pure, .read, .pure, .pure]) else bif Nat.beq id 15 then (.one 0 (.one 1 (.one 2 (.one 3 (.one 4 (.one 5 (.one 6 (.one 7 (.one 8 (.one 9 (.one 10 (.one 11 (.one 12 (.one 13 (.one 14 (.one 15 (.one 16 .done)))))))))))))))), clOf [.read, .pure, .read, .pure, .pure, .pure, .read, .pure, .read, .pure, .pure, .pure, .read, .pure, .read, .pure, .loud]) else (.done, clOf [])
abbrev ord162 := ordZ
abbrev ord163 := ordZ
abbrev ord164 := ordZ
abbrev ord165 := ordZ
def ord166 : Nat → Ord × (Nat → Cls) := fun id => bif Nat.beq id 4 then (.one 0 (.one 1 (.one 2 (.one 3 (.one 4 (.one 5 (.one 6 (.one 7 (.one 8 (.one 9 (.one 10 .done)))))))))), clOf [.read, .read, .pure, .pure, .pure, .read, .loud, .pure, .pure, .pure, .loud]) else (.done, clOf [])
abbrev ord167 := ordZ
def ord168 : Nat → Ord × (Nat → Cls) := fun id => bif Nat.beq id 1 then (.one 0 (.one 1 (.one 2 (.one 3 (.one 4 (.one 5 (.one 6 (.one 7 (.one 8 (.one 9 (.one 10 (.one 11 (.one 12 (.one 13 (.one 14 (.one 15 (.one 16 (.one 17 (.one 18 (.one 19 .done))))))))))))))))))), clOf [.pure, .pure, .pure, .read, .read, .ext, .loud, .pure, .pure, .pure, .pure, .pure, .read, .pure, .read, .loud, .pure, .pure, .pure, .pure]) else (.done, clOf [])
def ord169 : Nat → Ord × (Nat → Cls) := fun id => bif Nat.beq id 1 then (.one 0 (.one 1 (.one 2 (.one 3 (.one 4 (.one 5 (.one 6 .done)))))), clOf [.pure, .pure, .pure, .read, .read, .ext, .loud]) else bif Nat.beq id 2 then (.one 0 (.one 1 (.one 2 (.one 3 (.one 4 (.one 5 (.one 6 (.one 7 (.one 8 (.one 9 (.one 10 (.one 11 (.one 12 (.one 13 (.one 14 (.one 15 (.one 16 (.one 17 (.one 18 .done)))))))))))))))))), clOf [.pure, .pure, .pure, .read, .pure, .read, .pure, .pure, .pure, .read, .pure, .read, .pure, .read, .pure, .read, .pure, .pure, .loud]) else (.done, clOf [])
abbrev ord170 := ordZ
abbrev ord171 := ordZ
def ord172 : Nat → Ord × (Nat → Cls) := fun id => bif Nat.beq id 1 then (.one 0 (.one 1 (.one 2 (.one 3 (.one 4 (.one 5 (.one 6 (.one 7 (.one 8 (.one 9 (.one 10 (.one 11 (.one 12 (.one 13 .done))))))))))))), clOf [.pure, .read, .pure, .read, .loud, .pure, .pure, .read, .read, .ext, .loud, .pure, .pure, .pure]) else (.done, clOf [])
abbrev ord174 := ordZ
abbrev ord175 := ordZ
abbrev ord176 := ordZ
def ord178 : Nat → Ord × (Nat → Cls) := fun id => bif Nat.beq id 7 then (.one 0 (.one 1 (.one 2 (.one 3 (.one 4 (.one 5 (.one 6 (.one 7 (.alt 8 (.one 9 (.one 10 (.one 11 .done))) (.alt 9 (.one 8 (.one 10 (.one 11 .done))) (.none)))))))))), clOf [.pure, .pure, .pure, .read, .pure, .pure, .pure, .read, .ext, .ext, .ext, .ext, .ext]) else bif Nat.beq id 16 then (.one 0 (.one 1 (.one 2 (.one 3 (.one 4 (.one 5 (.one 6 (.one 7 (.one 8 (.one 9 (.one 10 (.one 11 (.one 12 (.one 13 (.one 14 (.one 15 (.one 16 (.one 17 (.one 18 (.one 19 (.one 20 (.one 21 (.one 22 (.one 23 (.one 24 (.one 25 (.one 26 (.one 27 (.one 28 (.one 29 (.one 30 (.one 31 (.one 32 (.one 33 (.one 34 (.one 35 (.one 36 (.one 37 (.one 38 (.one 39 (.one 40 (.one 41 (.one 42 (.one 43 (.one 44 .done)))))))))))))))))))))))))))))))))))))))))))), clOf [.pure, .read, .loud, .pure, .pure, .read, .pure, .pure, .pure, .pure, .read, .loud, .pure, .pure, .pure, .read, .pure, .pure, .read, .pure, .pure, .pure, .read, .pure, .pure, .read, .pure, .pure, .pure, .pure, .pure, .pure, .pure, .pure, .pure, .read, .pure, .pure, .pure, .read, .read, .loud, .pure, .pure, .pure]) else bif Nat.beq id 21 then (.one 0 (.one 1 (.one 2 (.one 3 (.one 4 (.one 5 (.one 6 (.one 7 (.one 8 (.one 9 (.one 10 (.one 11 (.one 12 (.one 13 (.one 14 (.one 15 (.one 16 (.one 17 (.one 18 (.one 19 .done))))))))))))))))))), clOf [.pure, .read, .pure, .pure, .pure, .read, .pure, .read, .pure, .pure, .pure, .read, .pure, .pure, .pure, .read, .pure, .read, .pure, .pure]) else (.done, clOf [])
def ord179 : Nat → Ord × (Nat → Cls) := fun id => bif Nat.beq id 10 then (.one 0 (.one 1 (.one 2 (.one 3 (.one 4 (.one 5 (.one 6 (.one 7 (.one 8 (.one 9 (.one 10 (.one 11 .done))))))))))), clOf [.pure, .pure, .pure, .read, .pure, .pure, .read, .pure, .pure, .pure, .read, .pure]) else (.done, clOf [])
def ord180 : Nat → Ord × (Nat → Cls) := fun id => bif Nat.beq id 7 then (.one 0 (.one 1 (.one 2 (.one 3 (.one 4 (.one 5 (.one 6 (.one 7 (.one 8 (.one 9 (.one 10 (.one 11 (.one 12 .done)))))))))))), clOf [.read, .pure, .pure, .pure, .pure, .read, .pure, .pure, .pure, .pure, .read, .loud, .pure]) else bif Nat.beq id 10 then (.one 0 (.one 1 (.one 2 (.one 3 (.one 4 (.one 5 (.one 6 (.one 7 (.one 8 (.one 9 (.one 10 (.one 11 .done))))))))))), clOf [.pure, .read, .pure, .pure, .pure, .pure, .read, .pure, .pure, .pure, .read, .pure]) else bif Nat.beq id 14 then (.one 0 (.one 1 (.one 2 (.one 3 (.one 4 (.one 5 (.one 6 (.one 7 (.one 8 (.one 9 (.one 10 (.one 11 (.one 12 (.one 13 (.one 14 (.one 15 (.one 16 (.one 17 (.one 18 (.one 19 (.one 20 (.one 21 .done))))))))))))))))))))), clOf [.pure, .pure, .pure, .pure, .pure, .read, .pure, .pure, .pure, .pure, .pure, .read, .pure, .read, .pure, .pure, .pure, .pure, .read, .pure, .pure, .loud]) else (.done, clOf [])
def ord181 : Nat → Ord × (Nat → Cls) := fun id => bif Nat.beq id 13 then (.one 0 (.one 1 (.one 2 (.one 3 (.one 4 (.one 5 (.one 6 (.one 7 (.one 8 (.one 9 (.one 10 (.alt 11 (.one 12 (.one 13 (.one 14 (.one 15 (.one 16 (.one 17 .done)))))) (.alt 15 (.one 11 (.one 12 (.one 13 (.one 14 (.one 16 (.one 17 .done)))))) (.none))))))))))))), clOf [.pure, .pure, .pure, .pure, .read, .pure, .pure, .pure, .read, .read, .read, .loud, .pure, .pure, .pure, .ext, .loud, .pure]) else (.done, clOf [])
def ord182 : Nat → Ord × (Nat → Cls) := fun id => bif Nat.beq id 6 then (.one 0 (.one 1 (.one 2 (.one 3 (.one 4 (.one 5 (.one 6 (.one 7 (.one 8 (.one 9 (.one 10 (.one 11 (.one 12 (.one 13 (.one 14 .done)))))))))))))), clOf [.pure, .pure, .pure, .pure, .pure, .pure, .pure, .pure, .read, .pure, .pure, .pure, .read, .pure, .pure]) else bif Nat.beq id 8 then (.one 0 (.one 1 (.one 2 (.one 3 (.one 4 (.one 5 (.one 6 (.one 7 (.one 8 (.one 9 (.one 10 (.one 11 (.one 12 (.one 13 (.one 14 .done)))))))))))))), clOf [.pure, .pure, .pure, .pure, .pure, .pure, .pure, .pure, .read, .pure, .pure, .pure, .read, .pure, .pure]) else bif Nat.beq id 10 then (.one 0 (.one 1 (.one 2 (.one 3 (.one 4 (.one 5 (.one 6 (.one 9 (.one 7 (.one 8 (.one 10 (.one 11 .done))))))))))), clOf [.pure, .pure, .pure, .pure, .pure, .pure, .read, .ext, .loud, .pure, .loud, .pure]) else (.done, clOf [])
abbrev ord183 := ordZ
abbrev ord185 := ordZ
abbrev ord187 := ordZ
abbrev ord189 := ordZ
abbrev ord190 := ordZ
def ord191 : Nat → Ord × (Nat → Cls) := fun id => bif Nat.beq id 11 then (.one 0 (.one 1 (.one 2 (.one 3 (.one 4 (.one 5 (.one 6 (.one 7 (.one 8 .done)))))))), clOf [.pure, .pure, .pure, .pure, .pure, .pure, .pure, .pure, .loud]) else bif Nat.beq id 15 then (.one 0 (.one 1 (.one 2 (.one 3 (.one 4 (.one 5 (.one 6 (.one 7 (.one 8 .done)))))))), clOf [.pure, .pure, .pure, .pure, .pure, .pure, .pure, .pure, .loud]) else (.done, clOf [])
abbrev ord192 := ordZ
abbrev ord193 := ordZ
abbrev ord218 := ordZ
abbrev ord223 := ordZ
abbrev ord224 := ordZ
abbrev ord225 := ordZ
abbrev ord226 := ordZ
abbrev ord228 := ordZ
abbrev ord229 := ordZ
abbrev ord230 := ordZ
abbrev ord231 := ordZ
abbrev ord232 := ordZ
abbrev ord233 := ordZ
abbrev ord234 := ordZ
abbrev ord235 := ordZ
def ord236 : Nat → Ord × (Nat → Cls) := fun id => bif Nat.beq id 5 then (.one 0 (.one 1 (.one 2 (.one 3 (.one 4 (.one 5 (.one 6 (.one 7 (.one 8 (.one 9 (.one 10 (.one 11 (.one 12 (.one 13 (.one 14 (.one 15 (.one 16 (.one 17 (.one 18 (.one 19 (.one 20 (.one 21 (.one 22 (.one 23 (.one 24 (.one 25 (.one 26 (.one 27 (.one 28 (.one 29 (.one 30 (.one 31 (.one 32 (.one 33 (.one 34 (.one 35 .done))))))))))))))))))))))))))))))))))), clOf [.pure, .read, .pure, .pure, .pure, .read, .pure, .pure, .pure, .pure, .pure, .pure, .pure, .pure, .read, .pure, .pure, .pure, .pure, .read, .pure, .read, .pure, .pure, .pure, .pure, .pure, .read, .pure, .pure, .pure, .pure, .read, .loud, .pure, .pure]) else (.done, clOf [])
def ord237 : Nat → Ord × (Nat → Cls) := fun id => bif Nat.beq id 7 then (.one 0 (.one 1 (.one 2 (.one 3 (.one 4 (.one 5 (.one 6 (.one 7 (.one 8 (.one 9 (.one 10 (.one 11 (.one 12 (.one 13 (.one 14 (.one 15 (.one 16 (.one 17 (.one 18 (.one 19 (.one 20 (.one 21 (.one 22 (.one 23 (.one 24 (.one 25 (.one 26 (.one 27 (.one 28 (.one 29 (.one 30 (.one 31 (.one 32 (.one 33 (.one 34 (.one 35 (.one 36 (.one 37 (.one 38 (.one 39 .done))))))))))))))))))))))))))))))))))))))), clOf [.pure, .read, .pure, .pure, .pure, .read, .pure, .pure, .pure, .pure, .pure, .read, .pure, .read, .pure, .read, .pure, .read, .pure, .pure, .pure, .pure, .read, .pure, .read, .pure, .pure, .pure, .pure, .read, .pure, .read, .pure, .read, .pure, .read, .pure, .read, .pure, .pure]) else (.done, clOf [])
abbrev ord238 := ordZ
def ord239 : Nat → Ord × (Nat → Cls) := fun id => bif Nat.beq id 4 then (.one 0 (.one 1 (.one 2 (.one 3 (.one 4 (.one 5 (.one 6 (.one 7 (.one 8 .done)))))))), clOf [.pure, .pure, .pure, .read, .pure, .pure, .pure, .read, .pure]) else bif Nat.beq id 5 then (.one 0 (.one 1 (.one 2 (.one 3 (.one 4 (.one 5 (.one 6 (.one 7 (.one 8 (.one 9 .done))))))))), clOf [.pure, .pure, .pure, .read, .pure, .pure, .pure, .read, .pure, .pure]) else (.done, clOf [])
def ord240 : Nat → Ord × (Nat → Cls) := fun id => bif Nat.beq id 6 then (.one 0 (.one 1 (.one 2 (.one 3 (.one 4 (.one 5 (.one 6 (.one 7 (.one 8 (.one 9 (.one 10 (.one 11 (.one 12 (.one 13 (.one 14 (.one 15 (.one 16 (.one 17 (.one 18 (.one 19 (.one 20 (.one 21 (.one 22 (.one 23 (.one 24 (.one 25 (.one 26 (.one 27 (.one 28 (.one 29 (.one 30 (.one 31 (.one 32 (.one 33 (.one 34 (.one 35 .done))))))))))))))))))))))))))))))))))), clOf [.pure, .read, .pure, .pure, .pure, .read, .pure, .pure, .pure, .pure, .pure, .pure, .pure, .pure, .read, .pure, .pure, .pure, .pure, .read, .pure, .read, .pure, .pure, .pure, .pure, .pure, .read, .pure, .pure, .pure, .pure, .read, .loud, .pure, .pure]) else bif Nat.beq id 18 then (.one 0 (.one 1 (.one 2 (.one 3 (.one 4 (.one 5 (.one 6 (.one 7 (.one 8 (.one 9 (.one 10 (.one 11 (.one 12 (.one 13 (.one 14 (.one 15 (.one 16 (.one 17 .done))))))))))))))))), clOf [.pure, .pure, .pure, .pure, .pure, .pure, .pure, .read, .pure, .pure, .pure, .pure, .read, .pure, .read, .pure, .pure, .pure]) else (.done, clOf [])
def ord241 : Nat → Ord × (Nat → Cls) := fun id => bif Nat.beq id 6 then (.one 0 (.one 1 (.one 2 (.one 3 (.one 4 (.one 5 (.one 6 (.one 7 (.one 8 (.one 9 (.one 10 (.one 11 (.one 12 (.one 13 (.one 14 (.one 15 (.one 16 (.one 17 (.one 18 (.one 19 (.one 20 .done)))))))))))))))))))), clOf [.pure, .read, .pure, .pure, .pure, .read, .pure, .pure, .pure, .read, .pure, .read, .pure, .pure, .pure, .read, .pure, .pure, .pure, .loud, .pure]) else (.done, clOf [])
abbrev ord242 := ordZ
abbrev ord243 := ordZ
def ord244 : Nat → Ord × (Nat → Cls) := fun id => bif Nat.beq id 7 then (.one 0 (.one 1 (.one 2 (.one 3 (.one 4 (.one 5 (.one 6 (.one 7 (.one 8 (.one 9 (.one 10 (.one 11 (.one 12 (.one 13 (.one 14 (.one 15 (.one 16 (.one 17 (.one 18 (.one 19 (.one 20 (.one 21 (.one 22 (.one 23 (.one 24 .done)))))))))))))))))))))))), clOf [.read, .read, .loud, .pure, .pure, .pure, .read, .loud, .read, .pure, .pure, .pure, .pure, .pure, .pure, .read, .pure, .pure, .pure, .read, .read, .loud, .pure, .pure, .pure]) else (.done, clOf [])
abbrev ord245 := ordZ
def ord246 : Nat → Ord × (Nat → Cls) := fun id => bif Nat.beq id 4 then (.one 0 (.one 1 (.one 2 (.one 3 (.one 4 (.one 5 (.one 6 (.one 7 (.one 8 (.one 9 (.one 10 (.one 11 (.one 12 (.one 13 (.one 14 (.one 15 (.one 16 (.one 17 .done))))))))))))))))), clOf [.pure, .pure, .pure, .read, .loud, .pure, .pure, .pure, .pure, .pure, .read, .pure, .pure, .pure, .read, .pure, .pure, .pure]) else (.done, clOf [])
abbrev ord247 := ordZ
def ord248 : Nat → Ord × (Nat → Cls) := fun id => bif Nat.beq id 12 then (.one 0 (.one 1 (.one 2 (.one 3 (.one 4 (.one 5 (.one 6 (.one 7 (.one 8 (.one 9 (.one 10 (.one 11 .done))))))))))), clOf [.pure, .read, .pure, .pure, .pure, .read, .pure, .read, .pure, .read, .loud, .pure]) else (.done, clOf [])
def ord250 : Nat → Ord × (Nat → Cls) := fun id => bif Nat.beq id 5 then (.one 0 (.one 1 (.one 2 (.one 3 (.one 4 (.one 5 (.one 6 (.one 7 (.one 8 (.one 9 (.one 10 (.one 11 (.one 12 .done)))))))))))), clOf [.pure, .read, .pure, .pure, .read, .pure, .read, .loud, .pure, .pure, .pure, .pure, .pure]) else bif Nat.beq id 6 then (.one 0 (.one 2 (.one 3 (.one 4 (.one 5 (.one 6 (.one 7 (.one 8 (.one 9 (.alt 1 (.one 10 (.one 11 (.one 12 (.one 13 (.one 14 .done))))) (.alt 10 (.alt 1 (.one 11 (.one 12 (.one 13 (.one 14 .done)))) (.alt 11 (.one 1 (.one 12 (.one 13 (.one 14 .done)))) (.none))) (.none))))))))))), clOf [.pure, .ext, .pure, .read, .pure, .pure, .read, .pure, .pure, .read, .ext, .loud, .pure, .pure, .loud]) else (.done, clOf [])
abbrev ord251 := ordZ
def ord252 : Nat → Ord × (Nat → Cls) := fun id => bif Nat.beq id 1 then (.one 0 (.one 2 (.alt 1 (.one 4 (.one 5 (.alt 3 (.one 6 (.one 7 (.one 8 (.one 9 .done)))) (.alt 6 (.one 3 (.one 7 (.one 8 (.one 9 .done)))) (.none))))) (.alt 3 (.one 1 (.one 4 (.one 5 (.one 6 (.one 7 (.one 8 (.one 9 .done))))))) (.none)))), clOf [.pure, .loud, .pure, .loud, .pure, .pure, .loud, .pure, .pure, .loud]) else (.done, clOf [])
def ord253 : Nat → Ord × (Nat → Cls) := fun id => bif Nat.beq id 4 then (.one 0 (.one 1 (.one 2 (.one 3 (.one 4 (.one 6 (.one 7 (.one 8 (.one 9 (.one 10 (.one 5 (.one 11 (.one 12 (.one 13 (.one 14 .done)))))))))))))), clOf [.pure, .read, .pure, .pure, .read, .ext, .pure, .read, .pure, .pure, .read, .loud, .ext, .loud, .pure]) else bif Nat.beq id 5 then (.one 0 (.one 1 (.one 2 (.one 3 (.one 4 (.one 5 (.one 6 (.one 7 (.one 8 .done)))))))), clOf [.pure, .read, .pure, .pure, .read, .pure, .read, .pure, .loud]) else (.done, clOf [])
abbrev ord254 := ordZ
abbrev ord255 := ordZ
def ord266 : Nat → Ord × (Nat → Cls) := fun id => bif Nat.beq id 4 then (.one 0 (.one 1 (.one 2 (.one 3 (.one 4 (.one 5 (.one 6 (.one 7 (.one 8 (.one 9 (.one 10 (.one 11 (.one 12 (.one 13 (.one 14 (.one 15 (.one 16 .done)))))))))))))))), clOf [.pure, .pure, .pure, .pure, .pure, .pure, .pure, .pure, .read, .pure, .pure, .pure, .pure, .read, .loud, .pure, .pure]) else bif Nat.beq id 6 then (.one 0 (.one 1 (.one 2 (.one 3 (.one 4 (.one 5 (.one 6 (.one 7 (.one 8 (.one 9 (.one 10 (.one 11 (.one 12 (.one 13 (.one 14 (.one 15 (.one 16 (.one 17 .done))))))))))))))))), clOf [.pure, .pure, .pure, .pure, .pure, .pure, .pure, .pure, .pure, .read, .pure, .pure, .pure, .read, .pure, .loud, .pure, .loud]) else (.done, clOf [])
def ord267 : Nat → Ord × (Nat → Cls) := fun id => bif Nat.beq id 5 then (.one 0 (.one 1 (.one 2 (.one 3 (.one 4 (.one 5 (.one 6 (.one 7 (.one 8 (.one 9 (.one 10 .done)))))))))), clOf [.pure, .pure, .pure, .pure, .read, .pure, .pure, .pure, .read, .loud, .pure]) else bif Nat.beq id 11 then (.one 0 (.one 1 (.one 2 (.one 3 (.one 4 (.one 5 (.one 6 (.one 7 (.one 8 (.one 9 (.one 10 (.one 11 (.one 12 (.one 13 (.one 14 (.one 15 (.one 16 (.one 17 .done))))))))))))))))), clOf [.pure, .pure, .pure, .pure, .pure, .pure, .pure, .pure, .pure, .read, .pure, .pure, .pure, .read, .pure, .loud, .pure, .loud]) else bif Nat.beq id 17 then (.one 0 (.one 1 (.one 2 (.one 3 (.one 4 (.one 5 (.one 6 (.one 7 (.one 8 (.one 9 (.one 10 (.one 11 .done))))))))))), clOf [.pure, .pure, .pure, .pure, .read, .pure, .pure, .pure, .read, .loud, .pure, .pure]) else bif Nat.beq id 23 then (.one 0 (.one 1 (.one 2 (.one 3 (.one 4 (.one 5 (.one 6 (.one 7 (.one 8 (.one 9 (.one 10 (.one 11 (.one 12 (.one 13 (.one 14 (.one 15 (.one 16 (.one 17 .done))))))))))))))))), clOf [.pure, .pure, .pure, .pure, .pure, .pure, .pure, .pure, .pure, .read, .pure, .pure, .pure, .read, .pure, .loud, .pure, .loud]) else bif Nat.beq id 35 then (.one 0 (.one 1 (.one 2 (.one 3 (.one 4 (.one 5 (.one 6 (.one 7 (.one 8 (.one 9 (.one 10 (.one 11 (.one 12 (.one 13 .done))))))))))))), clOf [.pure, .pure, .pure, .pure, .pure, .pure, .read, .pure, .pure, .pure, .read, .loud, .pure, .pure]) else (.done, clOf [])
abbrev ord268 := ordZ
abbrev ord270 := ordZ
abbrev ord271 := ordZ
def ord272 : Nat → Ord × (Nat → Cls) := fun id => bif Nat.beq id 6 then (.one 0 (.one 1 (.one 2 (.one 3 (.one 4 (.one 5 (.one 6 (.one 7 (.one 8 .done)))))))), clOf [.pure, .pure, .pure, .read, .pure, .pure, .pure, .read, .pure]) else (.done, clOf [])
abbrev ord273 := ordZ
abbrev ord274 := ordZ
def ord275 : Nat → Ord × (Nat → Cls) := fun id => bif Nat.beq id 3 then (.one 0 (.one 1 (.one 2 (.one 3 (.one 4 (.one 5 (.one 6 (.one 7 .done))))))), clOf [.pure, .pure, .read, .pure, .pure, .read, .pure, .pure]) else (.done, clOf [])
abbrev ord276 := ordZ
def ord277 : Nat → Ord × (Nat → Cls) := fun id => bif Nat.beq id 1 then (.one 0 (.one 1 (.one 2 (.one 3 (.one 5 (.one 6 (.one 7 (.one 8 (.one 10 (.one 11 (.one 12 (.one 13 (.one 4 (.one 9 (.one 14 (.one 15 (.one 16 (.one 17 .done))))))))))))))))), clOf [.pure, .read, .pure, .read, .ext, .pure, .read, .pure, .read, .ext, .pure, .read, .pure, .read, .loud, .ext, .loud, .pure]) else (.done, clOf [])
def ord278 : Nat → Ord × (Nat → Cls) := fun id => bif Nat.beq id 5 then (.one 0 (.one 1 (.one 2 (.one 3 (.one 4 (.one 5 (.one 6 (.one 7 (.one 8 (.one 9 (.one 10 (.one 11 (.one 12 (.one 13 .done))))))))))))), clOf [.pure, .pure, .pure, .pure, .pure, .read, .pure, .pure, .pure, .pure, .read, .pure, .loud, .pure]) else (.done, clOf [])
def ord279 : Nat → Ord × (Nat → Cls) := fun id => bif Nat.beq id 6 then (.one 0 (.one 1 (.one 2 (.one 3 (.one 4 (.one 5 (.one 6 (.one 7 (.one 8 (.one 9 (.one 10 (.one 11 (.one 12 (.one 13 (.one 14 (.one 15 (.one 16 (.one 17 .done))))))))))))))))), clOf [.pure, .pure, .pure, .pure, .read, .pure, .read, .pure, .pure, .pure, .pure, .pure, .pure, .read, .pure, .read, .pure, .pure]) else bif Nat.beq id 8 then (.one 0 (.one 1 (.one 2 (.one 3 (.one 4 (.one 5 (.one 6 (.one 7 (.one 8 (.one 9 .done))))))))), clOf [.pure, .pure, .pure, .read, .pure, .pure, .pure, .read, .loud, .pure]) else (.done, clOf [])
abbrev ord280 := ordZ
abbrev ord281 := ordZ
def ord282 : Nat → Ord × (Nat → Cls) := fun id => bif Nat.beq id 1 then (.one 0 (.one 2 (.one 3 (.one 1 (.one 4 (.one 5 (.one 6 .done)))))), clOf [.read, .ext, .pure, .read, .loud, .pure, .pure]) else (.done, clOf [])
def ord283 : Nat → Ord × (Nat → Cls) := fun id => bif Nat.beq id 5 then (.one 0 (.one 1 (.one 2 (.one 3 (.one 4 (.one 5 (.one 6 (.one 7 .done))))))), clOf [.pure, .pure, .pure, .pure, .read, .read, .loud, .pure]) else bif Nat.beq id 8 then (.one 0 (.one 1 (.one 2 (.one 3 (.one 4 (.one 5 (.one 6 (.one 7 (.one 8 (.one 9 (.one 10 (.one 11 (.one 12 (.one 13 (.one 14 (.one 15 .done))))))))))))))), clOf [.pure, .pure, .pure, .pure, .pure, .pure, .pure, .pure, .pure, .read, .read, .loud, .pure, .pure, .pure, .pure]) else (.done, clOf [])
def ord284 : Nat → Ord × (Nat → Cls) := fun id => bif Nat.beq id 11 then (.one 0 (.one 1 (.one 2 (.one 3 (.one 4 (.one 5 (.one 6 (.one 7 (.one 8 .done)))))))), clOf [.pure, .pure, .pure, .pure, .pure, .pure, .pure, .pure, .loud]) else bif Nat.beq id 15 then (.one 0 (.one 1 (.one 2 (.one 3 (.one 4 (.one 5 (.one 6 (.one 7 (.one 8 .done)))))))), clOf [.pure, .pure, .pure, .pure, .pure, .pure, .pure, .pure, .loud]) else (.done, clOf [])
def ord285 : Nat → Ord × (Nat → Cls) := fun id => bif Nat.beq id 1 then (.one 0 (.one 2 (.one 3 (.one 4 (.one 5 (.one 6 (.one 7 (.alt 1 (.one 8 (.one 9 (.one 10 (.one 11 .done)))) (.alt 8 (.one 1 (.one 9 (.one 10 (.one 11 .done)))) (.none))))))))), clOf [.pure, .ext, .pure, .read, .pure, .pure, .read, .pure, .loud, .pure, .pure, .loud]) else (.done, clOf [])
abbrev ord288 := ordZ
abbrev ord289 := ordZ
abbrev ord290 := ordZ
abbrev ord291 := ordZ
abbrev ord294 := ordZ
def ord295 : Nat → Ord × (Nat → Cls) := fun id => bif Nat.beq id 1 then (.one 0 (.one 1 (.one 2 (.one 3 (.one 4 (.one 5 (.one 6 .done)))))), clOf [.pure, .pure, .read, .read, .ext, .loud, .pure]) else (.done, clOf [])
def ord297 : Nat → Ord × (Nat → Cls) := fun id => bif Nat.beq id 3 then (.one 0 (.one 1 (.one 2 (.one 3 (.one 4 (.one 5 (.one 6 (.one 7 (.one 8 (.one 9 (.one 10 (.one 11 (.one 12 (.one 13 (.one 14 (.one 15 (.one 16 (.one 17 (.one 18 (.one 19 (.one 20 (.one 21 (.one 22 (.one 23 .done))))))))))))))))))))))), clOf [.pure, .pure, .pure, .pure, .pure, .pure, .pure, .pure, .pure, .pure, .pure, .pure, .pure, .read, .pure, .pure, .pure, .pure, .pure, .read, .pure, .loud, .pure, .loud]) else (.done, clOf [])
abbrev ord298 := ordZ
def ord299 : Nat → Ord × (Nat → Cls) := fun id => bif Nat.beq id 5 then (.one 1 (.one 2 (.one 3 (.one 4 (.one 0 (.one 5 .done))))), clOf [.loud, .pure, .pure, .pure, .pure, .loud]) else (.done, clOf [])
abbrev ord301 := ordZ
abbrev ord302 := ordZ
abbrev ord303 := ordZ
abbrev ord304 := ordZ
def ord305 : Nat → Ord × (Nat → Cls) := fun id => bif Nat.beq id 6 then (.one 0 (.one 1 (.one 2 (.one 3 (.one 4 (.one 5 (.one 6 (.one 7 (.one 8 (.one 9 (.one 10 (.one 11 (.one 12 (.one 13 (.one 14 (.one 15 (.one 16 (.one 17 (.one 18 .done)))))))))))))))))), clOf [.pure, .pure, .pure, .pure, .pure, .pure, .pure, .pure, .pure, .pure, .pure, .pure, .pure, .pure, .pure, .pure, .read, .pure, .pure]) else (.done, clOf [])
abbrev ord307 := ordZ
end Go.Proofs.YtmllihbhphnolaaGreat
namespace Go.CF
open Go
theorem xA {p X Y : Prop} (hx : X) (h : p := by first|assumption|omega|rfl) : Bd p X Y := .t h hx
theorem xB {p X Y : Prop} (hy : Y) (h : ¬ p := by first|assumption|omega|exact Bool.false_ne_true) : Bd p X Y := .f h hy
theorem xN {α : Type} {l l' : List α} {k : List α → Prop} (hk : k l') (h : LN l l' := by repeat constructor) : Nm l k := .r h hk
theorem xT {o rest : List Res} {b : Nat} {k : TypeId → List AV → List Res → Prop} {T : TypeId} {cs : List AV} (hk : k T cs rest) (h : Take o (blkR b T cs) rest := by repeat constructor) : TkB o b k := .r h hk
theorem xU {α : Type} {o rest : List Res} {v : Value} {k : ∀ {α : Type}, TypeId → Nat → List α → (α → List AV) → List Res → Prop} {T : TypeId} {sz : Nat} {l : List α} {f : α → List AV} (hk : k T sz l f rest) (h : Take o (arrR v T sz l f) rest := by repeat constructor) : TkA o v k := .r h hk
theorem xM {β : Type} {P : Program} {o rest : List Res} {b : Nat} {k : ∀ {β : Type}, TypeId → List (List Int × β) → (β → AV) → List Res → Prop} {kt : TypeId} {kvs : List (List Int × β)} {f : β → AV} (hk : k kt kvs f rest) (h : Take o (mapR P b kt kvs f) rest := by repeat constructor) : TkM P o b k := .r h hk
theorem xV {l : List AV} {k : Nat} {v : AV} {M : List AV → Prop} {l' : List AV} (hm : M l') (h : SetA l k v l' := by repeat first|assumption|constructor) : SetAk l k v M := .r h hm
theorem xO {i : Int} {M : Int → Prop} (hm : M i) (h : -9223372036854775808 ≤ i ∧ i ≤ 9223372036854775807 := by first|omega|(simp <;> omega)) : Ov i M := .n h hm
theorem xI {α : Type} {l : List α} {i : Int} {k : Nat → α → Prop} {j : Nat} {x : α} (hk : k j x) (hi : i = (j : Int) := by exact rfl) (h : l[j]? = some x := by assumption) : Ix l i k := .q hi h hk
theorem xJ {α : Type} {l : List α} {k : α → Prop} {j : Nat} {x : α} (hk : k x) (h : l[j]? = some x := by assumption) : At l j k := .r h hk
theorem xP {p k : Prop} (hk : k) (h : p := by first|omega|(simp <;> omega)) : Om p k := ⟨h, hk⟩
theorem xK {cs : List AV} {M : List Int → Prop} {xs : List Int} (hm : M xs) (h : ILit cs xs := by repeat (first|apply ILit.cons|exact ILit.nil)) : Il cs M := .r h hm
section
variable {Γ : Cx} {k : List KI} {e : EA} {o : List Res} {ops : Array Oper} {c : Cls}
theorem xD {i : Nat} {t : Ord} (h : RA' Γ k ops (Γ.T i).2 t e o) (_hx : isLoud ((Γ.T i).2 ops.size) = true := by rfl) (hn : Region.noSelect ops = true := by kernel_rfl) (hc : chk ops (Γ.T i).2 (Γ.T i).1 ops.size true (Array.replicate ops.size false) = true := by kernel_rfl) (ho : ON (Γ.T i).1 t := by repeat' constructor) (hd : (ops.toList.all fun op => dOK Γ.n op.dst) = true := by rfl) : CA Γ k (.region i ops true) e o := .draw _hx hn hc ho hd h
theorem xQ {f : FuncId} {as' : List AV} {r : AV} (hc : CallP Γ.P f as' r) {xs : List AV} {M : AV → List Res → Prop} (hm : M r o) (hv : Lend [] xs as' := by repeat' (first|exact Lend.nil|apply Lend.keep)) : Cl Γ c f xs o M := .p hc hv hm
theorem xW {f : FuncId} {xs as' : List AV} {own rest : List Res} {K : AV → List Res → Prop} {M : AV → List Res → Prop} (hc : CallA Γ.P f as' own K) (hm : ∀ r own', K r own' → M r (own' ++ rest)) (hv : Lend [] xs as' := by repeat' (first|exact Lend.nil|apply Lend.keep)) (ht : Takes o own rest := by repeat (first|exact Takes.nil|(apply Takes.cons;(focus repeat constructor)))) (hl : (isLoud c || own.isEmpty) = true := by rfl) : Cl Γ c f xs o M := .use hc hv ht hl hm
end
theorem xE {e : EA} {o : List Res} {σ : AS} (h1 : subA' e σ.env := by repeat first|trivial|refine ⟨rfl,?_⟩) (h2 : Subl o σ.own := by repeat first|exact .nil|refine .cons (by repeat constructor) ?_) : Sub e o σ := ⟨h1, h2⟩
theorem FL.z {o own : List Res} (h : Subl o own := by repeat first|exact .nil|refine .cons (by repeat constructor) ?_) : FL o [] [] own := .nil h
end Go.CF
namespace Go.Proofs.YtmllihbhphnolaaGreat
open Go Go.CF
set_option maxRecDepth 20000
def intC (x : Int) : List AV := [.val (.int .i64 x)]
abbrev ints (l : List Int) : AV := .sl 1 l intC
theorem vb {a b : Bool} (h : a = b) : AV.val (.bool a) = AV.val (.bool b) := by rw [h]
theorem all_succ {α : Type} {l : List α} {i : Nat} {x : α} {P : α → Prop} (h : l[i]? = some x) (ha : ∀ y ∈ l.take i, P y) (hx : P x) : ∀ y ∈ l.take (i + 1), P y := fun y hy => by
 rw [List.take_add_one, h] at hy
 rcases List.mem_append.1 hy with h1|h1
 ·exact ha y h1
 ·simp at h1;exact h1 ▸ hx
theorem get_of {α : Type} {l : List α} {i : Nat} (h : i < l.length) : ∃ x, l[i]? = some x := ⟨_, List.getElem?_eq_getElem h⟩
theorem equal_p (a b : List Int) : CallP Tryz.prog 19 [ints a, ints b] (.val (.bool (decide (a = b)))) := by
 refine CallA.of pg ord19 Tryz.func19 rfl Tryz.ntmps19 Tryz.results19 rfl fun h0 G0 O0 => ?_
 repeat' (first|refine Sp.h ?_|refine Lk.r rfl ?_|refine Rf.mk rfl ?_|(refine Bd.mk ?_ ?_ <;> intro _)|(refine Im.mk ?_;intro _)|refine xN ?_|fail)
 ·rename_i ha hb hab _
  refine CA.loop (fun i : Nat => ⟨[(0, ints a), (1, ints b), (12, .val (.int .i64 a.length)), (13, .val (.int .i64 i))], []⟩) (fun i => i ≤ a.length ∧ a.take i = b.take i) (fun i => a.length - i) 0 xE ⟨Nat.zero_le _, by simp⟩ ?_
  rintro i ⟨hi, heq⟩
  by_cases hin : i < a.length
  ·obtain ⟨x, hx⟩ : ∃ x, a[i]? = some x := ⟨_, List.getElem?_eq_getElem hin⟩
   obtain ⟨y, hy⟩ : ∃ y, b[i]? = some y := ⟨_, List.getElem?_eq_getElem (by omega)⟩
   repeat' (first|refine Sp.h ?_|refine Lk.r rfl ?_|refine Rf.mk rfl ?_|refine xA ?_|(refine Bd.mk ?_ ?_ <;> intro _)|refine OpK.r rfl ?_|refine xI ?_|refine xN ?_|refine xD ?_|refine xO ?_|fail)
   ·rename_i hxy
    refine PA.lp (i + 1) xE ⟨⟨hin, ?_⟩, by omega⟩
    rw [List.take_add_one, List.take_add_one, hx, hy, heq, show x = y by omega]
   ·rename_i hxy
    refine Fin.p rfl ?_
    rw [decide_eq_false (fun e => hxy ?_)]
    subst e;rw [hx] at hy;cases hy;rfl
  ·have : i = a.length := by omega
   subst this
   repeat' (first|refine Sp.h ?_|refine Lk.r rfl ?_|refine Rf.mk rfl ?_|refine xB ?_|refine xN ?_|fail)
   refine Fin.p rfl ?_
   rw [List.take_length] at heq
   rw [decide_eq_true (by rw [heq, List.take_of_length_le (by omega)])]
 ·rename_i h
  refine Fin.p rfl ?_
  rw [decide_eq_false (fun e => h (by rw [e]))]
/-! ### Valid -/
def rngK (x : Int) : Prop := 0 ≤ x ∧ x ≤ 1024
def ValC (c : List Int) : Prop := (∀ x ∈ c, rngK x) ∧ 1 ≤ c.length ∧ c.length ≤ 5
noncomputable instance (c : List Int) : Decidable (ValC c) := Classical.propDecidable _
theorem validC_p (c : List Int) : CallP Tryz.prog 44 [ints c] (.val (.bool (decide (ValC c)))) := by
 refine CallA.of pg ord44 Tryz.func44 rfl Tryz.ntmps44 Tryz.results44 rfl fun h0 G0 O0 => ?_
 repeat' (first|refine Sp.h ?_|refine Lk.r rfl ?_|refine Rf.mk rfl ?_|(refine Im.mk ?_;intro _)|fail)
 refine CA.loop (fun i : Nat => ⟨[(0, ints c), (5, ints c), (6, .val (.int .i64 c.length)), (7, .val (.int .i64 i))], []⟩) (fun i => i ≤ c.length ∧ ∀ x ∈ c.take i, rngK x) (fun i => c.length - i) 0 xE ⟨Nat.zero_le _, by simp⟩ ?_
 rintro i ⟨hi, ha⟩
 by_cases hin : i < c.length
 ·obtain ⟨x, hx⟩ := get_of hin
  repeat' (first|refine Sp.h ?_|refine Lk.r rfl ?_|refine Rf.mk rfl ?_|refine xA ?_|refine xB ?_|(refine Bd.mk ?_ ?_ <;> intro _)|refine xI ?_|refine xN ?_|refine xO ?_|fail)
  all_goals first
   | exact PA.lp (i + 1) xE ⟨⟨hin, all_succ hx ha ⟨by omega, by omega⟩⟩, by omega⟩
   | exact Fin.p rfl (vb (decide_eq_false (fun h => by have h1 := h.1 x (List.mem_of_getElem? hx);unfold rngK at h1;omega)).symm)
 ·have : i = c.length := by omega
  subst this
  rw [List.take_length] at ha
  repeat' (first|refine Sp.h ?_|refine Lk.r rfl ?_|refine Rf.mk rfl ?_|refine xA ?_|refine xB ?_|(refine Bd.mk ?_ ?_ <;> intro _)|(refine Im.mk ?_;intro _)|refine xN ?_|fail)
  all_goals exact Fin.p rfl (vb (by first|exact (decide_eq_false (fun h => by have := h.2;omega)).symm|exact decide_eq_decide.2 ⟨fun h => ⟨ha, by omega, by omega⟩, fun h => by have := h.2;omega⟩))
def HasC (c : List Int) (r n : Int) : Prop := ValC c ∧ 0 ≤ r ∧ 1 ≤ n ∧ ∃ x, c[r.toNat]? = some x ∧ n ≤ x
noncomputable instance (c : List Int) (r n : Int) : Decidable (HasC c r n) := Classical.propDecidable _
abbrev dotC (r n : Int) : AV := .agg [.val (.int .i64 r), .val (.int .i64 n)]
theorem hasC_p (c : List Int) (r n : Int) : CallP Tryz.prog 23 [ints c, dotC r n] (.val (.bool (decide (HasC c r n)))) := by
 refine CallA.of pg ord23 Tryz.func23 rfl Tryz.ntmps23 Tryz.results23 rfl fun h0 G0 O0 => ?_
 by_cases hr : 0 ≤ r ∧ r < c.length
 ·obtain ⟨x, hx⟩ := get_of (l := c) (i := r.toNat) (by omega)
  repeat' (first|refine Sp.h ?_|refine Lk.r rfl ?_|refine Rf.mk rfl ?_|refine OpK.r rfl ?_|(refine All.mk ?_;intro _)|refine xD ?_|fail)
  refine xQ (validC_p _) ?_
  repeat' (first|refine Sp.h ?_|refine Lk.r rfl ?_|refine Rf.mk rfl ?_|refine xA ?_|refine xB ?_|(refine Bd.mk ?_ ?_ <;> intro _)|refine OpK.r rfl ?_|(refine Im.mk ?_;intro _)|refine xT ?_|(apply Ix.r;(focus assumption);(focus omega))|refine xN ?_|fail)
  all_goals refine Fin.p rfl (vb ?_)
  all_goals first
   | exact decide_eq_decide.2 ⟨fun h => ⟨by assumption, hr.1, by assumption, x, hx, h⟩, fun ⟨_, _, _, y, hy, h⟩ => by rw [hx] at hy;cases hy;exact h⟩
   | exact (decide_eq_false (fun ⟨_, _, _, y, hy, _⟩ => by have := (List.getElem?_eq_some_iff.1 hy).1;first|contradiction|omega)).symm
 ·repeat' (first|refine Sp.h ?_|refine Lk.r rfl ?_|refine Rf.mk rfl ?_|refine OpK.r rfl ?_|(refine All.mk ?_;intro _)|refine xD ?_|fail)
  refine xQ (validC_p _) ?_
  repeat' (first|refine Sp.h ?_|refine Lk.r rfl ?_|refine Rf.mk rfl ?_|refine xA ?_|refine xB ?_|(refine Bd.mk ?_ ?_ <;> intro _)|refine OpK.r rfl ?_|(refine Im.mk ?_;intro _)|refine xT ?_|refine xN ?_|fail)
  all_goals refine Fin.p rfl (vb ?_)
  all_goals exact (decide_eq_false (fun ⟨_, _, _, y, hy, _⟩ => by have := (List.getElem?_eq_some_iff.1 hy).1;first|contradiction|omega)).symm
/-! ### alike, inside -/
def clkC (c : List Int) : List AV := [ints c]
abbrev clks (l : List (List Int)) : AV := .sl 1 l clkC
def AlikeC (l : List (List Int)) : Prop := 0 < l.length ∧ ∀ c ∈ l, ValC c ∧ c.length = (l[0]?.getD []).length
noncomputable instance (l : List (List Int)) : Decidable (AlikeC l) := Classical.propDecidable _
theorem alike_p (l : List (List Int)) : CallP Tryz.prog 156 [clks l] (.val (.bool (decide (AlikeC l)))) := by
 refine CallA.of pg ord156 Tryz.func156 rfl Tryz.ntmps156 Tryz.results156 rfl fun h0 G0 O0 => ?_
 repeat' (first|refine Sp.h ?_|refine Lk.r rfl ?_|refine Rf.mk rfl ?_|(refine Im.mk ?_;intro _)|fail)
 refine CA.loop (fun i : Nat => ⟨[(0, clks l), (5, clks l), (6, .val (.int .i64 l.length)), (7, .val (.int .i64 i))], []⟩) (fun i => i ≤ l.length ∧ ∀ c ∈ l.take i, ValC c ∧ c.length = (l[0]?.getD []).length) (fun i => l.length - i) 0 xE ⟨Nat.zero_le _, by simp⟩ ?_
 rintro i ⟨hi, ha⟩
 by_cases hin : i < l.length
 ·obtain ⟨c, hc⟩ := get_of hin
  obtain ⟨b, hb⟩ := get_of (l := l) (i := 0) (by omega)
  have hbb : (l[0]?.getD []).length = b.length := by rw [hb];rfl
  repeat' (first|refine Sp.h ?_|refine Lk.r rfl ?_|refine Rf.mk rfl ?_|refine xA ?_|refine xI ?_|fail)
  refine xQ (validC_p _) ?_
  repeat' (first|refine Sp.h ?_|refine Lk.r rfl ?_|refine Rf.mk rfl ?_|refine xA ?_|refine xB ?_|(refine Bd.mk ?_ ?_ <;> intro _)|(refine Im.mk ?_;intro _)|refine xI ?_|refine xN ?_|refine xO ?_|fail)
  all_goals first
   | exact Fin.p rfl (vb (decide_eq_false (fun h => by have h1 := h.2 c (List.mem_of_getElem? hc);first|exact absurd h1.1 (by assumption)|omega)).symm)
   | exact PA.lp (i + 1) xE ⟨⟨hin, all_succ hc ha ⟨by assumption, by omega⟩⟩, by omega⟩
 ·have : i = l.length := by omega
  subst this
  rw [List.take_length] at ha
  repeat' (first|refine Sp.h ?_|refine Lk.r rfl ?_|refine Rf.mk rfl ?_|refine xB ?_|(refine Im.mk ?_;intro _)|refine xN ?_|fail)
  exact Fin.p rfl (vb (decide_eq_decide.2 ⟨fun h => ⟨by omega, ha⟩, fun h => by have := h.1;omega⟩))
abbrev CallO (P : Program) (f : FuncId) (args : List AV) {α : Type} (T : TypeId) (sz : Nat) (l : List α) (g : α → List AV) : Prop := CallA P f args [] fun r own => ∃ v, r = .ow v ∧ own = [arrR v T sz l g]
theorem clone_o (l : List Int) (hl : l.length ≤ 1000000000) : CallO Tryz.prog 83 [ints l] 3 1 l intC := by
 refine CallA.of pg ord83 Tryz.func83 rfl Tryz.ntmps83 Tryz.results83 rfl fun h0 G0 O0 => ?_
 repeat' (first|refine Sp.h ?_|refine Lk.r rfl ?_|refine Rf.mk rfl ?_|(refine Bd.mk ?_ ?_ <;> intro _)|refine xP ?_|(refine Im.mk ?_;intro _)|(refine All.mk ?_;intro _)|refine xU ?_|refine Ce.l rfl ?_|(apply Fk.r;focus repeat' first|infer_instance|constructor)|refine xN ?_|refine Rf.mk ⟨rfl, rfl⟩ ?_|refine Rf.mk ⟨rfl, rfl, rfl⟩ ?_|refine Mp.same ?_|fail)
 ·rename_i b hb hbt
  have hl0 : l = [] := Decidable.byContradiction fun h => by rw [hb h] at hbt;cases hbt
  subst hl0
  exact ⟨_, _, .one (.nils (.z)), _, rfl, rfl⟩
 ·repeat' (first|fail)
  exact ⟨_, _, .one (.same (.z)), _, rfl, rfl⟩
def Ins (a b : List Int) : Prop := ∀ (i : Nat) (x y : Int), a[i]? = some x → b[i]? = some y → x ≤ y
noncomputable instance (a b : List Int) : Decidable (Ins a b) := Classical.propDecidable _
end Go.Proofs.YtmllihbhphnolaaGreat
namespace Go.Proofs.YtmllihbhphnolaaGreat
open Go Go.CF
set_option maxRecDepth 20000
theorem alike2 (a b : List Int) : AlikeC [a, b] ↔ ValC a ∧ ValC b ∧ a.length = b.length := by
 unfold AlikeC
 simp
 intro _ _
 exact eq_comm
/-! ### Missing -/
def spanC (s : Int × Int × Int) : List AV := [.val (.int .i64 s.1), .val (.int .i64 s.2.1), .val (.int .i64 s.2.2)]
instance {p q r : Int} : Inv spanC [.val (.int .i64 p), .val (.int .i64 q), .val (.int .i64 r)] (p, q, r) := ⟨rfl⟩
theorem missing_o (a b : List Int) : CallA Tryz.prog 89 [ints a, ints b] [] fun r own => ∃ v l, r = .ow v ∧ own = [arrR v 106 3 l spanC] ∧ (l = [] ↔ (AlikeC [a, b] → Ins b a)) ∧ l.length ≤ 5 := by
 refine CallA.of pg ord89 Tryz.func89 rfl Tryz.ntmps89 Tryz.results89 rfl fun h0 G0 O0 => ?_
 repeat' (first|refine Sp.h ?_|refine Lk.r rfl ?_|refine Rf.mk rfl ?_|(refine All.mk ?_;intro _)|(apply Fk.r;focus repeat' first|infer_instance|constructor)|refine Rf.mk ⟨rfl, rfl, rfl⟩ ?_|fail)
 rename_i w
 (apply Cl.lend (alike_p [a, b]);(focus repeat' (first|exact Lend.nil|(apply Lend.lendm;(focus repeat constructor);(focus rfl);(focus first|omega|decide|(simp;omega)|exact Nat.le_of_ble_eq_true rfl))|fail)))
 repeat' (first|refine Sp.h ?_|refine Lk.r rfl ?_|refine Rf.mk rfl ?_|(refine Bd.mk ?_ ?_ <;> intro _)|(refine Im.mk ?_;intro _)|refine xN ?_|fail)
 ·rename_i hal hla
  obtain ⟨hva, hvb, hlab⟩ := (alike2 a b).1 hal
  refine CA.nilOwn 5 106 3 spanC rfl fun w2 => ?_
  refine CA.loop (fun x : Nat × Value × List (Int × Int × Int) => ⟨[(0, ints a), (1, ints b), (13, .val (.int .i64 a.length)), (14, .val (.int .i64 x.1)), (5, .ow x.2.1)], [arrR x.2.1 106 3 x.2.2 spanC]⟩)
   (fun x => x.1 ≤ a.length ∧ x.2.2.length ≤ x.1 ∧ (x.2.2 = [] ↔ ∀ j p q, j < x.1 → a[j]? = some p → b[j]? = some q → q ≤ p)) (fun x => a.length - x.1) (0, w2, []) xE ⟨Nat.zero_le _, Nat.le_refl _, ⟨fun _ j p q h => absurd h (by omega), fun _ => rfl⟩⟩ ?_
  rintro ⟨i, v, l⟩ ⟨hi, hl, hq⟩
  simp only at hi hl hq
  by_cases hin : i < a.length
  ·obtain ⟨x, hx⟩ := get_of hin
   obtain ⟨y, hy⟩ := get_of (l := b) (i := i) (by omega)
   have hrx := hva.1 x (List.mem_of_getElem? hx)
   unfold rngK at hrx
   have hva3 := hva.2
   repeat' (first|refine Sp.h ?_|refine Lk.r rfl ?_|refine Rf.mk rfl ?_|refine xA ?_|(refine Bd.mk ?_ ?_ <;> intro _)|refine OpK.r rfl ?_|refine xP ?_|(refine All.mk ?_;intro _)|refine xU ?_|refine xI ?_|refine Ce.r ?_|(apply Fk.r;focus repeat' first|infer_instance|constructor)|refine Rf.mk ⟨rfl, rfl⟩ ?_|refine Rf.mk ⟨rfl, rfl, rfl⟩ ?_|(apply Mp.lit;(focus repeat (first|exact MpL.nil|(apply MpL.cons;(focus rfl))|(apply MpL.inv;(focus repeat constructor);(focus infer_instance)))))|refine xD ?_|refine xO ?_|fail)
   ·rename_i hxy _ v2
    refine PA.lp (i + 1, v2, l ++ [((i : Int), x + 1, y)]) xE ⟨⟨hin, by simp;omega, ?_⟩, by simp only;omega⟩
    constructor
    ·intro h;simp at h
    ·intro h;have := h i x y (by simp) hx hy;omega
   ·rename_i hxy
    refine PA.lp (i + 1, v, l) xE ⟨⟨hin, by simp only;omega, hq.trans ⟨fun h j p q hj h1 h2 => ?_, fun h j p q hj h1 h2 => h j p q (by simp only;omega) h1 h2⟩⟩, by simp only;omega⟩
    by_cases e : j = i
    ·subst e;rw [hx] at h1;rw [hy] at h2;cases h1;cases h2;omega
    ·exact h j p q (by simp only at hj;omega) h1 h2
  ·have : i = a.length := by omega
   subst this
   repeat' (first|refine Sp.h ?_|refine Lk.r rfl ?_|refine Rf.mk rfl ?_|refine xB ?_|refine xN ?_|fail)
   exact ⟨_, _, .one (.same (.z)), v, l, rfl, rfl, ⟨fun h _ j p q h1 h2 => hq.1 h j q p (List.getElem?_eq_some_iff.1 h2).1 h2 h1, fun h => hq.2 fun j p q _ h1 h2 => h hal j q p h2 h1⟩, by have := hva.2;omega⟩
 ·exact ⟨_, _, .one (.nils (.z)), _, [], rfl, rfl, ⟨fun _ h => absurd h (by assumption), fun _ => rfl⟩, by simp⟩
/-! ### Zero -/
theorem zero_ok (n : Int) (hn : 1 ≤ n ∧ n ≤ 5) : CallO Tryz.prog 32 [.val (.int .i64 n)] 3 1 (List.replicate n.toNat 0) intC := by
 obtain ⟨m, rfl⟩ : ∃ m : Nat, n = m := ⟨n.toNat, by omega⟩
 refine CallA.of pg ord32 Tryz.func32 rfl Tryz.ntmps32 Tryz.results32 rfl fun h0 G0 O0 => ?_
 repeat' (first|refine Sp.h ?_|refine Lk.r rfl ?_|refine Rf.mk rfl ?_|refine xB ?_|(refine All.mk ?_;intro _)|refine xN ?_|refine Rf.mk ⟨rfl, rfl, rfl⟩ ?_|(apply Jx.r;(focus exact rfl);(focus first|omega|(simp;done)|(simp;omega)))|refine MkS.r intC 0 rfl ?_|fail)
 exact ⟨_, _, .one (.same (.z)), _, rfl, rfl⟩
/-! ### Compare -/
end Go.Proofs.YtmllihbhphnolaaGreat
namespace Go.Proofs.YtmllihbhphnolaaGreat
open Go Go.CF
set_option maxRecDepth 20000
def zipC (op : Int → Int → Int) (a b : List Int) : List Int := List.zipWith op a b
set_option maxHeartbeats 1000000 in

theorem zipC_len {op : Int → Int → Int} {a c : List Int} (h : a.length = c.length) : (zipC op a c).length = a.length := by simp [zipC];omega
end Go.Proofs.YtmllihbhphnolaaGreat
namespace Go.Proofs.YtmllihbhphnolaaGreat
open Go Go.CF
set_option maxRecDepth 20000
theorem validR_p (c : List Int) : CallP Tryz.prog 105 [ints c] (.val (.bool (decide (ValC c)))) := by
 refine CallA.of pg ord105 Tryz.func105 rfl Tryz.ntmps105 Tryz.results105 rfl fun h0 G0 O0 => ?_
 repeat' (first|refine Sp.h ?_|refine Lk.r rfl ?_|refine Rf.mk rfl ?_|fail)
 refine CA.loop (fun i : Nat => ⟨[(0, ints c), (3, .val (.int .i64 i))], []⟩) (fun i => i ≤ c.length ∧ ∀ x ∈ c.take i, rngK x) (fun i => c.length - i) 0 xE ⟨Nat.zero_le _, by simp⟩ ?_
 rintro i ⟨hi, ha⟩
 by_cases hin : i < c.length
 ·obtain ⟨x, hx⟩ := get_of hin
  repeat' (first|refine Sp.h ?_|refine Lk.r rfl ?_|refine Rf.mk rfl ?_|refine xA ?_|refine xB ?_|(refine Bd.mk ?_ ?_ <;> intro _)|(refine Im.mk ?_;intro _)|refine xI ?_|refine xN ?_|refine xO ?_|fail)
  all_goals first
   | exact PA.lp (i + 1) xE ⟨⟨hin, all_succ hx ha ⟨by omega, by omega⟩⟩, by omega⟩
   | exact Fin.p rfl (vb (decide_eq_false (fun h => by have h1 := h.1 x (List.mem_of_getElem? hx);unfold rngK at h1;omega)).symm)
 ·have : i = c.length := by omega
  subst this
  rw [List.take_length] at ha
  repeat' (first|refine Sp.h ?_|refine Lk.r rfl ?_|refine Rf.mk rfl ?_|refine xA ?_|refine xB ?_|(refine Bd.mk ?_ ?_ <;> intro _)|(refine Im.mk ?_;intro _)|refine xN ?_|fail)
  all_goals exact Fin.p rfl (vb (by first|exact (decide_eq_false (fun h => by have := h.2;omega)).symm|exact decide_eq_decide.2 ⟨fun h => ⟨ha, by omega, by omega⟩, fun h => by have := h.2;omega⟩))
theorem hasR_p (c : List Int) (r n : Int) : CallP Tryz.prog 122 [ints c, dotC r n] (.val (.bool (decide (HasC c r n)))) := by
 refine CallA.of pg ord122 Tryz.func122 rfl Tryz.ntmps122 Tryz.results122 rfl fun h0 G0 O0 => ?_
 by_cases hr : 0 ≤ r ∧ r < c.length
 ·obtain ⟨x, hx⟩ := get_of (l := c) (i := r.toNat) (by omega)
  repeat' (first|refine Sp.h ?_|refine Lk.r rfl ?_|refine Rf.mk rfl ?_|refine OpK.r rfl ?_|(refine All.mk ?_;intro _)|refine xD ?_|fail)
  refine xQ (validR_p _) ?_
  repeat' (first|refine Sp.h ?_|refine Lk.r rfl ?_|refine Rf.mk rfl ?_|refine xA ?_|refine xB ?_|(refine Bd.mk ?_ ?_ <;> intro _)|refine OpK.r rfl ?_|(refine Im.mk ?_;intro _)|refine xT ?_|(apply Ix.r;(focus assumption);(focus omega))|refine xN ?_|fail)
  all_goals refine Fin.p rfl (vb ?_)
  all_goals first
   | exact decide_eq_decide.2 ⟨fun h => ⟨by assumption, hr.1, by assumption, x, hx, h⟩, fun ⟨_, _, _, y, hy, h⟩ => by rw [hx] at hy;cases hy;exact h⟩
   | exact (decide_eq_false (fun ⟨_, _, _, y, hy, _⟩ => by have := (List.getElem?_eq_some_iff.1 hy).1;first|contradiction|omega)).symm
 ·repeat' (first|refine Sp.h ?_|refine Lk.r rfl ?_|refine Rf.mk rfl ?_|refine OpK.r rfl ?_|(refine All.mk ?_;intro _)|refine xD ?_|fail)
  refine xQ (validR_p _) ?_
  repeat' (first|refine Sp.h ?_|refine Lk.r rfl ?_|refine Rf.mk rfl ?_|refine xA ?_|refine xB ?_|(refine Bd.mk ?_ ?_ <;> intro _)|refine OpK.r rfl ?_|(refine Im.mk ?_;intro _)|refine xT ?_|refine xN ?_|fail)
  all_goals refine Fin.p rfl (vb ?_)
  all_goals exact (decide_eq_false (fun ⟨_, _, _, y, hy, _⟩ => by have := (List.getElem?_eq_some_iff.1 hy).1;first|contradiction|omega)).symm
theorem insideR_p (a b : List Int) : CallP Tryz.prog 75 [ints a, ints b] (.val (.bool (decide (Ins a b)))) := by
 refine CallA.of pg ord75 Tryz.func75 rfl Tryz.ntmps75 Tryz.results75 rfl fun h0 G0 O0 => ?_
 repeat' (first|refine Sp.h ?_|refine Lk.r rfl ?_|refine Rf.mk rfl ?_|fail)
 refine CA.loop (fun i : Nat => ⟨[(0, ints a), (1, ints b), (5, .val (.int .i64 i))], []⟩) (fun i => i ≤ a.length ∧ ∀ j x y, j < i → a[j]? = some x → b[j]? = some y → x ≤ y) (fun i => a.length - i) 0 xE ⟨Nat.zero_le _, fun j x y h => by omega⟩ ?_
 rintro i ⟨hi, ha⟩
 by_cases hin : i < a.length ∧ i < b.length
 ·obtain ⟨x, hx⟩ := get_of hin.1
  obtain ⟨y, hy⟩ := get_of hin.2
  repeat' (first|refine Sp.h ?_|refine Lk.r rfl ?_|refine Rf.mk rfl ?_|refine xA ?_|(refine Bd.mk ?_ ?_ <;> intro _)|refine OpK.r rfl ?_|(refine Im.mk ?_;intro _)|refine xI ?_|refine xN ?_|refine xD ?_|refine xO ?_|fail)
  ·rename_i hxy
   exact Fin.p rfl (vb (decide_eq_false (fun h => by have := h i x y hx hy;omega)).symm)
  ·rename_i hxy
   refine PA.lp (i + 1) xE ⟨⟨hin.1, fun j x' y' hj h1 h2 => ?_⟩, by omega⟩
   by_cases e : j = i
   ·subst e;rw [hx] at h1;rw [hy] at h2;cases h1;cases h2;omega
   ·exact ha j x' y' (by omega) h1 h2
 ·repeat' (first|refine Sp.h ?_|refine Lk.r rfl ?_|refine Rf.mk rfl ?_|refine xA ?_|refine xB ?_|(refine Bd.mk ?_ ?_ <;> intro _)|(refine Im.mk ?_;intro _)|refine xN ?_|fail)
  all_goals exact Fin.p rfl (vb (decide_eq_true (p := Ins a b) (fun j x y h1 h2 => ha j x y (by have := (List.getElem?_eq_some_iff.1 h1).1;have := (List.getElem?_eq_some_iff.1 h2).1;omega) h1 h2)).symm)
theorem intsR_p (a b : List Int) : CallP Tryz.prog 129 [ints a, ints b] (.val (.bool (decide (a = b)))) := by
 refine CallA.of pg ord129 Tryz.func129 rfl Tryz.ntmps129 Tryz.results129 rfl fun h0 G0 O0 => ?_
 repeat' (first|refine Sp.h ?_|refine Lk.r rfl ?_|refine Rf.mk rfl ?_|(refine Bd.mk ?_ ?_ <;> intro _)|(refine Im.mk ?_;intro _)|refine xN ?_|fail)
 ·refine CA.loop (fun i : Nat => ⟨[(0, ints a), (1, ints b), (5, .val (.int .i64 i))], []⟩) (fun i => i ≤ a.length ∧ a.take i = b.take i) (fun i => a.length - i) 0 xE ⟨Nat.zero_le _, by simp⟩ ?_
  rintro i ⟨hi, heq⟩
  by_cases hin : i < a.length
  ·obtain ⟨x, hx⟩ := get_of hin
   obtain ⟨y, hy⟩ := get_of (l := b) (i := i) (by omega)
   repeat' (first|refine Sp.h ?_|refine Lk.r rfl ?_|refine Rf.mk rfl ?_|refine xA ?_|(refine Bd.mk ?_ ?_ <;> intro _)|refine OpK.r rfl ?_|(refine Im.mk ?_;intro _)|refine xI ?_|refine xN ?_|refine xD ?_|refine xO ?_|fail)
   ·refine PA.lp (i + 1) xE ⟨⟨hin, ?_⟩, by omega⟩
    rw [List.take_add_one, List.take_add_one, hx, hy, heq, show x = y by omega]
   ·rename_i hxy
    refine Fin.p rfl (vb (decide_eq_false (fun e => hxy ?_)).symm)
    subst e;rw [hx] at hy;cases hy;rfl
  ·have : i = a.length := by omega
   subst this
   repeat' (first|refine Sp.h ?_|refine Lk.r rfl ?_|refine Rf.mk rfl ?_|refine xB ?_|(refine Im.mk ?_;intro _)|refine xN ?_|fail)
   refine Fin.p rfl (vb (decide_eq_true ?_).symm)
   rw [List.take_length] at heq
   rw [heq, List.take_of_length_le (by omega)]
 ·rename_i h
  exact Fin.p rfl (vb (decide_eq_false (fun e => h (by rw [e]))).symm)
/-! ### Events -/
structure EvS where
 rep : Int
 num : Int
 time : Int
 past : List Int
 kind : Int
 action : Int
 gk : Int
 gi : Int
 ge : Int
 ga : Int
 to : Int
 place : Int
 serial : Int
abbrev iv (x : Int) : AV := .val (.int .i64 x)
def evC (e : EvS) : List AV := [iv e.rep, iv e.num, iv e.time, ints e.past, iv e.kind, iv e.action, iv e.gk, iv e.gi, iv e.ge, iv e.ga, iv e.to, iv e.place, iv e.serial]
abbrev evA' (e : EvS) : AV := .agg (evC e)
abbrev evs (l : List EvS) : AV := .sl 13 l evC
theorem nameR_p (e : EvS) : CallP Tryz.prog 24 [evA' e] (dotC e.rep e.num) := by
 refine CallA.of pg ord24 Tryz.func24 rfl Tryz.ntmps24 Tryz.results24 rfl fun h0 G0 O0 => ?_
 repeat' (first|refine Sp.h ?_|refine Lk.r rfl ?_|refine Rf.mk rfl ?_|(refine All.mk ?_;intro _)|refine xT ?_|(apply SetAsk.r;focus repeat' constructor)|(apply Fk.r;focus repeat' first|infer_instance|constructor)|refine xN ?_|fail)
 exact Fin.p rfl rfl
def Btw (n lo hi : Int) : Prop := lo ≤ n ∧ n ≤ hi
instance (n lo hi : Int) : Decidable (Btw n lo hi) := inferInstanceAs (Decidable (_ ∧ _))
theorem between_p (n lo hi : Int) : CallP Tryz.prog 84 [iv n, iv lo, iv hi] (.val (.bool (decide (Btw n lo hi)))) := by
 refine CallA.of pg ord84 Tryz.func84 rfl Tryz.ntmps84 Tryz.results84 rfl fun h0 G0 O0 => ?_
 repeat' (first|refine Sp.h ?_|refine Lk.r rfl ?_|refine Rf.mk rfl ?_|refine xA ?_|refine xB ?_|(refine Bd.mk ?_ ?_ <;> intro _)|refine xN ?_|fail)
 all_goals refine Fin.p rfl (vb ?_)
 ·exact decide_eq_decide.2 (by unfold Btw;omega)
 ·exact (decide_eq_false (by unfold Btw;omega)).symm
end Go.Proofs.YtmllihbhphnolaaGreat
namespace Go.Proofs.YtmllihbhphnolaaGreat
open Go Go.CF
set_option maxRecDepth 20000
theorem rdInt : RdT Tryz.prog 3 (Rp.int .i64) := RdT.int Tryz.underlying3 (by kernel_rfl)
theorem rdInts : RdT Tryz.prog 22 (Rp.int .i64).slice := RdT.slice Tryz.underlying22 (by kernel_rfl) rdInt (by decide)
abbrev RightT := Int × Int × Int × Unit
def Rp.rightT : Rp RightT := (Rp.int .i64).pair ((Rp.int .i64).pair ((Rp.int .i64).pair Rp.unit))
theorem rdRight : RdT Tryz.prog 33 Rp.rightT := RdT.struct Tryz.underlying33 rfl (by kernel_rfl) (RdF.cons rfl rdInt rfl (RdF.cons rfl rdInt rfl (RdF.cons rfl rdInt rfl RdF.nil)))
abbrev NeedT := RightT × Int × Unit
def Rp.needT : Rp NeedT := Rp.rightT.pair ((Rp.int .i64).pair Rp.unit)
theorem rdNeed : RdT Tryz.prog 35 Rp.needT := RdT.struct Tryz.underlying35 rfl (by kernel_rfl) (RdF.cons rfl rdRight rfl (RdF.cons rfl rdInt rfl RdF.nil))
abbrev EventT := Int × Int × Int × List Int × Int × Int × NeedT × Int × Int × Int × Unit
def Rp.eventT : Rp EventT := (Rp.int .i64).pair ((Rp.int .i64).pair ((Rp.int .i64).pair ((Rp.int .i64).slice.pair ((Rp.int .i64).pair ((Rp.int .i64).pair (Rp.needT.pair ((Rp.int .i64).pair ((Rp.int .i64).pair ((Rp.int .i64).pair Rp.unit)))))))))
theorem rdEvent : RdT Tryz.prog 37 Rp.eventT := RdT.struct Tryz.underlying37 rfl (by kernel_rfl)
 (RdF.cons rfl rdInt rfl (RdF.cons rfl rdInt rfl (RdF.cons rfl rdInt rfl (RdF.cons rfl rdInts rfl (RdF.cons rfl rdInt rfl (RdF.cons rfl rdInt rfl (RdF.cons rfl rdNeed rfl (RdF.cons rfl rdInt rfl (RdF.cons rfl rdInt rfl (RdF.cons rfl rdInt rfl RdF.nil))))))))))
def evOf : EventT → EvS
 | (rep, num, time, past, kind, action, ((gk, gi, ge, ()), ga, ()), to, place, serial, ()) =>
  { rep := rep, num := num, time := time, past := past, kind := kind, action := action, gk := gk, gi := gi, ge := ge, ga := ga, to := to, place := place, serial := serial }
def evIn (e : EvS) : EventT := (e.rep, e.num, e.time, e.past, e.kind, e.action, ((e.gk, e.gi, e.ge, ()), e.ga, ()), e.to, e.place, e.serial, ())
def Rp.event : Rp EvS := Rp.eventT.iso evIn
theorem rdEv : RdT Tryz.prog 37 Rp.event := RdT.iso rdEvent evIn evOf (fun _ => rfl)
theorem rdEvs : RdT Tryz.prog 31 Rp.event.slice := RdT.slice Tryz.underlying31 (by kernel_rfl) rdEv (by decide)
theorem avInts : Avr (Rp.int .i64).slice fun l => [ints l] := Avr.int.slice
theorem avEvent : Avr Rp.event evC :=
 ((Avr.int.pair (Avr.int.pair (Avr.int.pair (avInts.pair (Avr.int.pair (Avr.int.pair (((Avr.int.pair (Avr.int.pair (Avr.int.pair Avr.unit))).pair (Avr.int.pair Avr.unit)).pair (Avr.int.pair (Avr.int.pair (Avr.int.pair Avr.unit)))))))))).iso evIn).cast fun _ => rfl
theorem avEvs : Avr Rp.event.slice fun l => [evs l] := avEvent.slice
end Go.Proofs.YtmllihbhphnolaaGreat
namespace Go.Proofs.YtmllihbhphnolaaGreat
open Go Go.CF Go.ChangeShapes Go.WideShapes Go.ChangeAt Go.RowKit
set_option maxRecDepth 100000

theorem knob : ownKnob Tryz.prog.godebug = none := by kernel_rfl
theorem laid : laidOutB Tryz.prog = true := by kernel_rfl
theorem sliceArg {W : World} {r : Reach} {b : Nat} {t e : TypeId} {v : Value} {α : Type} {R : Rp α} {l : List α} (ht : Tryz.prog.underlying t = some (.slice e)) (hv : Value.okWide Tryz.prog W r b t v) (h : R.slice.R W.heap (Old W.heap) v.cells.toList l) : R.slice.R W.heap (Old W.heap) [v] l := by
 rw [CF.okWide_slice ht hv] at h;exact h
end Go.Proofs.YtmllihbhphnolaaGreat
namespace Go.CF
open Go Go.ChangeShapes Go.WideShapes Go.ChangeAt Go.RowKit
def Rp.str : Rp ByteArray where
 sz := 1
 R := fun _ _ cs a => cs = [.string a]
 len := by rintro _ _ _ _ rfl;rfl
 one := by rintro _ _ _ _ rfl u hu;simp at hu;subst hu;rfl
 stp := fun _ _ h => h
 mono := fun _ h => h
 lt := fun h => h
theorem RdT.str {P : Program} {t : TypeId} (ht : P.underlying t = some .string) (hc : P.cellsOf t = 1) : RdT P t Rp.str :=
 ⟨hc, fun h => by obtain ⟨b, h1, _⟩ := DataW.trod_string ht h;exact ⟨b, h1⟩⟩
theorem Avr.str : Avr Rp.str fun s => [.val (.string s)] := ⟨by rintro _ _ _ _ rfl;exact ⟨⟨rfl, trivial⟩, fun u hu => by rw [List.mem_singleton.1 hu];rfl⟩⟩
theorem Avr.bool : Avr Rp.bool fun b => [.val (.bool b)] := ⟨by rintro _ _ _ _ rfl;exact ⟨⟨rfl, trivial⟩, fun u hu => by rw [List.mem_singleton.1 hu];rfl⟩⟩
theorem Avr.agg {α : Type} {r : Rp α} {f : α → List AV} (ha : Avr r f) {h : Heap} {F : Nat → Prop} {v : Value} {a : α} (hv : v = .agg v.cells) (hr : r.R h F v.cells.toList a) : (AV.agg (f a)).R h F v := ⟨v.cells.toList, by simpa using hv, ha.rep hr⟩
end Go.CF
namespace Go.Proofs.YtmllihbhphnolaaGreat
open Go Go.CF
set_option maxRecDepth 20000
abbrev sv (s : ByteArray) : AV := .val (.string s)
def isWhite (x : Int) : Prop := x = 9 ∨ x = 10 ∨ x = 13 ∨ x = 32
noncomputable instance (x : Int) : Decidable (isWhite x) := Classical.propDecidable _
theorem white_p (x : Int) : CallP Tryz.prog 301 [.val (.int .u8 x)] (.val (.bool (decide (isWhite x)))) := by
 refine CallA.of pg ord301 Tryz.func301 rfl Tryz.ntmps301 Tryz.results301 rfl fun h0 G0 O0 => ?_
 repeat' (first|refine Sp.h ?_|refine Lk.r rfl ?_|refine Rf.mk rfl ?_|refine xA ?_|refine xB ?_|(refine Bd.mk ?_ ?_ <;> intro _)|refine xN ?_|fail)
 all_goals refine Fin.p rfl (vb ?_)
 all_goals first
  | exact decide_eq_decide.2 (by unfold isWhite;omega)
  | exact (decide_eq_true (by unfold isWhite;omega)).symm
def isLetter (x : Int) : Prop := 97 ≤ x ∧ x ≤ 122
noncomputable instance (x : Int) : Decidable (isLetter x) := Classical.propDecidable _
theorem letter_p (x : Int) : CallP Tryz.prog 302 [.val (.int .u8 x)] (.val (.bool (decide (isLetter x)))) := by
 refine CallA.of pg ord302 Tryz.func302 rfl Tryz.ntmps302 Tryz.results302 rfl fun h0 G0 O0 => ?_
 repeat' (first|refine Sp.h ?_|refine Lk.r rfl ?_|refine Rf.mk rfl ?_|refine xA ?_|refine xB ?_|(refine Bd.mk ?_ ?_ <;> intro _)|refine xN ?_|fail)
 all_goals refine Fin.p rfl (vb ?_)
 all_goals first
  | exact decide_eq_decide.2 (by unfold isLetter;omega)
  | exact (decide_eq_false (by unfold isLetter;omega)).symm
def isDigit (x : Int) : Prop := 48 ≤ x ∧ x ≤ 57
noncomputable instance (x : Int) : Decidable (isDigit x) := Classical.propDecidable _
theorem digit_p (x : Int) : CallP Tryz.prog 303 [.val (.int .u8 x)] (.val (.bool (decide (isDigit x)))) := by
 refine CallA.of pg ord303 Tryz.func303 rfl Tryz.ntmps303 Tryz.results303 rfl fun h0 G0 O0 => ?_
 repeat' (first|refine Sp.h ?_|refine Lk.r rfl ?_|refine Rf.mk rfl ?_|refine xA ?_|refine xB ?_|(refine Bd.mk ?_ ?_ <;> intro _)|refine xN ?_|fail)
 all_goals refine Fin.p rfl (vb ?_)
 all_goals first
  | exact decide_eq_decide.2 (by unfold isDigit;omega)
  | exact (decide_eq_false (by unfold isDigit;omega)).symm
inductive Comm (s : ByteArray) : Nat → Nat → Prop where
 | stop {a : Nat} : ¬ (a < s.size ∧ byteAt s a ≠ 10) → Comm s a a
 | step {a j : Nat} : a < s.size → byteAt s a ≠ 10 → Comm s (a + 1) j → Comm s a j
inductive Skip (s : ByteArray) : Nat → Nat → Prop where
 | stop {a : Nat} : ¬ (a < s.size ∧ (isWhite (byteAt s a) ∨ byteAt s a = 35)) → Skip s a a
 | white {a j : Nat} : a < s.size → byteAt s a ≠ 35 → isWhite (byteAt s a) → Skip s (a + 1) j → Skip s a j
 | com {a b j : Nat} : a < s.size → byteAt s a = 35 → Comm s a b → Skip s b j → Skip s a j
theorem Comm.le {s : ByteArray} {a j : Nat} (h : Comm s a j) (ha : a ≤ s.size) : a ≤ j ∧ j ≤ s.size := by
 induction h with
 | stop => exact ⟨Nat.le_refl _, ha⟩
 | step h1 _ _ ih => have := ih h1;omega
theorem Comm.lt {s : ByteArray} {a j : Nat} (h : Comm s a j) (ha : a < s.size) (hb : byteAt s a = 35) : a < j ∧ j ≤ s.size := by
 cases h with
 | stop h => exact absurd ⟨ha, by omega⟩ h
 | step h1 _ h3 => have := h3.le h1;omega
theorem Comm.ex (s : ByteArray) : ∀ (n a : Nat), s.size - a = n → ∃ j, Comm s a j := by
 intro n
 induction n with
 | zero => exact fun a h => ⟨a, .stop (by omega)⟩
 | succ n ih =>
  intro a h
  by_cases h1 : byteAt s a = 10
  ·exact ⟨a, .stop (by omega)⟩
  ·obtain ⟨j, hj⟩ := ih (a + 1) (by omega)
   exact ⟨j, .step (by omega) h1 hj⟩
theorem Skip.le {s : ByteArray} {a j : Nat} (h : Skip s a j) : a ≤ s.size → a ≤ j ∧ j ≤ s.size ∧ (j < s.size → ¬ isWhite (byteAt s j) ∧ byteAt s j ≠ 35) := by
 induction h with
 | stop h => exact fun ha => ⟨Nat.le_refl _, ha, fun hl => ⟨fun h9 => h ⟨hl, .inl h9⟩, fun h9 => h ⟨hl, .inr h9⟩⟩⟩
 | white h1 _ _ _ ih => intro ha;have := ih h1;exact ⟨by omega, this.2⟩
 | com h1 h2 h3 _ ih => intro ha;have h9 := h3.lt h1 h2;have := ih h9.2;exact ⟨by omega, this.2⟩
theorem Skip.ex (s : ByteArray) (n : Nat) : ∀ a : Nat, s.size - a = n → ∃ j, Skip s a j := by
 induction n using Nat.strongRecOn with
 | ind n ih =>
  intro a h
  by_cases hc : a < s.size ∧ (isWhite (byteAt s a) ∨ byteAt s a = 35)
  ·by_cases h2 : byteAt s a = 35
   ·obtain ⟨b, hb⟩ := Comm.ex s _ a rfl
    have h9 := hb.lt hc.1 h2
    obtain ⟨j, hj⟩ := ih (s.size - b) (by omega) b rfl
    exact ⟨j, .com hc.1 h2 hb hj⟩
   ·obtain ⟨j, hj⟩ := ih (s.size - (a + 1)) (by omega) (a + 1) rfl
    exact ⟨j, .white hc.1 h2 (hc.2.resolve_right h2) hj⟩
  ·exact ⟨a, .stop hc⟩
theorem skip_p {s : ByteArray} {a j : Nat} (hs : s.size ≤ 1000000000) (ha : a ≤ s.size) (h : Skip s a j) : CallP Tryz.prog 298 [sv s, .val (.int .i64 a)] (.val (.int .i64 j)) := by
 refine CallA.of pg ord298 Tryz.func298 rfl Tryz.ntmps298 Tryz.results298 rfl fun h0 G0 O0 => ?_
 repeat' (first|refine Sp.h ?_|refine Lk.r rfl ?_|refine Rf.mk rfl ?_|fail)
 refine CA.loop (fun a : Nat => ⟨[(0, sv s), (1, .val (.int .i64 a))], []⟩) (fun a => a ≤ s.size ∧ Skip s a j) (fun a => s.size - a) a xE ⟨ha, h⟩ ?_
 rintro a ⟨ha, h⟩
 cases h with
 | stop hn =>
  by_cases hl : j < s.size
  ·have hw : ¬ isWhite (byteAt s j) := fun h9 => hn ⟨hl, .inl h9⟩
   have h35 : byteAt s j ≠ 35 := fun h9 => hn ⟨hl, .inr h9⟩
   repeat' (first|refine Sp.h ?_|refine Lk.r rfl ?_|refine Rf.mk rfl ?_|refine xA ?_|refine xB ?_|refine xN ?_|(apply Sx.r;(focus exact rfl);(focus first|omega|(simp;omega)))|(apply Cl.p (white_p _);(focus repeat' (first|exact Lend.nil|apply Lend.keep|fail))))
   exact Fin.p rfl rfl
  ·repeat' (first|refine Sp.h ?_|refine Lk.r rfl ?_|refine Rf.mk rfl ?_|refine xB ?_|refine xN ?_|(apply Cl.p (white_p _);(focus repeat' (first|fail))))
   exact Fin.p rfl rfl
 | white h1 h2 h3 h4 =>
  repeat' (first|refine Sp.h ?_|refine Lk.r rfl ?_|refine Rf.mk rfl ?_|refine xA ?_|refine xB ?_|(apply Sx.r;(focus exact rfl);(focus first|omega|(simp;omega)))|refine xO ?_|(apply Cl.p (white_p _);(focus repeat' (first|exact Lend.nil|apply Lend.keep|fail))))
  exact PA.lp (a + 1) xE ⟨⟨h1, h4⟩, by omega⟩
 | com h1 h2 h3 h4 =>
  rename_i b
  have hw : ¬ isWhite (byteAt s a) := by unfold isWhite;omega
  have hb := h3.lt h1 h2
  repeat' (first|refine Sp.h ?_|refine Lk.r rfl ?_|refine Rf.mk rfl ?_|refine xA ?_|refine xB ?_|(apply Sx.r;(focus exact rfl);(focus first|omega|(simp;omega)))|(apply Cl.p (white_p _);(focus repeat' (first|exact Lend.nil|apply Lend.keep|fail))))
  refine CA.loop (fun a : Nat => ⟨[(0, sv s), (1, .val (.int .i64 a))], []⟩) (fun a => a ≤ s.size ∧ Comm s a b) (fun a => s.size - a) a xE ⟨ha, h3⟩ ?_
  rintro a2 ⟨ha2, h⟩
  cases h with
  | stop hn =>
   by_cases hl : b < s.size
   ·have h10 : byteAt s b = 10 := Classical.byContradiction fun h9 => hn ⟨hl, h9⟩
    repeat' (first|refine Sp.h ?_|refine Lk.r rfl ?_|refine Rf.mk rfl ?_|refine xA ?_|(apply Sx.r;(focus exact rfl);(focus first|omega|(simp;omega)))|fail)
    exact PA.lp b xE ⟨⟨ha2, h4⟩, by omega⟩
   ·repeat' (first|refine Sp.h ?_|refine Lk.r rfl ?_|refine Rf.mk rfl ?_|refine xB ?_|fail)
    exact PA.lp b xE ⟨⟨ha2, h4⟩, by omega⟩
  | step g1 g2 g3 =>
   repeat' (first|refine Sp.h ?_|refine Lk.r rfl ?_|refine Rf.mk rfl ?_|refine xA ?_|refine xB ?_|(apply Sx.r;(focus exact rfl);(focus first|omega|(simp;omega)))|refine xO ?_|fail)
   exact PA.lp (a2 + 1) xE ⟨⟨g1, g3⟩, by omega⟩
def strC (q : ByteArray) : List AV := [sv q]
def HasS (l : List ByteArray) (s : ByteArray) : Prop := ∃ q ∈ l, q.toList = s.toList
noncomputable instance (l : List ByteArray) (s : ByteArray) : Decidable (HasS l s) := Classical.propDecidable _
theorem has_p (l : List ByteArray) (s : ByteArray) : CallP Tryz.prog 233 [.sl 1 l strC, sv s] (.val (.bool (decide (HasS l s)))) := by
 refine CallA.of pg ord233 Tryz.func233 rfl Tryz.ntmps233 Tryz.results233 rfl fun h0 G0 O0 => ?_
 repeat' (first|refine Sp.h ?_|refine Lk.r rfl ?_|refine Rf.mk rfl ?_|fail)
 refine CA.loop (fun i : Nat => ⟨[(0, .sl 1 l strC), (1, sv s), (5, .val (.int .i64 i))], []⟩) (fun i => i ≤ l.length ∧ ∀ j q, j < i → l[j]? = some q → q.toList ≠ s.toList) (fun i => l.length - i) 0 xE ⟨Nat.zero_le _, fun j q h => by omega⟩ ?_
 rintro i ⟨hi, hj⟩
 by_cases hin : i < l.length
 ·obtain ⟨q, hq⟩ := get_of hin
  repeat' (first|refine Sp.h ?_|refine Lk.r rfl ?_|refine Rf.mk rfl ?_|refine xA ?_|(refine Bd.mk ?_ ?_ <;> intro _)|(refine Im.mk ?_;intro _)|refine xI ?_|refine xN ?_|refine xO ?_|fail)
  ·rename_i h
   exact Fin.p rfl (vb (decide_eq_true (show HasS l s from ⟨q, List.mem_of_getElem? hq, h⟩)).symm)
  ·rename_i h
   refine PA.lp (i + 1) xE ⟨⟨hin, fun j y h1 h2 => ?_⟩, by omega⟩
   by_cases hij : j = i
   ·subst hij;rw [hq] at h2;cases h2;exact h
   ·exact hj j y (by omega) h2
 ·repeat' (first|refine Sp.h ?_|refine Lk.r rfl ?_|refine Rf.mk rfl ?_|refine xB ?_|(refine Im.mk ?_;intro _)|refine xN ?_|fail)
  refine Fin.p rfl (vb (decide_eq_false ?_).symm)
  rintro ⟨q, hq, h⟩
  obtain ⟨j, hq⟩ := List.getElem?_of_mem hq
  exact hj j q (by have := (List.getElem?_eq_some_iff.1 hq).1;omega) hq h
def symL : List ByteArray := [⟨#[61, 61]⟩, ⟨#[33, 61]⟩, ⟨#[60, 61]⟩, ⟨#[62, 61]⟩, ⟨#[46, 46]⟩, ⟨#[60]⟩, ⟨#[62]⟩, ⟨#[61]⟩, ⟨#[43]⟩, ⟨#[45]⟩, ⟨#[42]⟩, ⟨#[40]⟩, ⟨#[41]⟩, ⟨#[123]⟩, ⟨#[125]⟩, ⟨#[44]⟩, ⟨#[58]⟩, ⟨#[59]⟩]
def kwL : List ByteArray := [⟨#[115, 111, 114, 116]⟩, ⟨#[114, 101, 108, 97, 116, 105, 111, 110]⟩, ⟨#[99, 111, 117, 110, 116, 101, 114]⟩, ⟨#[115, 101, 116]⟩, ⟨#[114, 101, 103, 105, 115, 116, 101, 114]⟩, ⟨#[105, 110, 118, 97, 114, 105, 97, 110, 116]⟩, ⟨#[111, 112, 101, 114, 97, 116, 105, 111, 110]⟩, ⟨#[107, 101, 121]⟩, ⟨#[114, 101, 102, 101, 114, 101, 110, 99, 101]⟩, ⟨#[116, 111]⟩, ⟨#[99, 111, 117, 110, 116]⟩, ⟨#[97, 99, 121, 99, 108, 105, 99]⟩, ⟨#[97, 108, 108]⟩, ⟨#[115, 117, 109]⟩, ⟨#[105, 110]⟩, ⟨#[97, 100, 100, 119, 105, 110, 115]⟩, ⟨#[114, 101, 109, 111, 118, 101, 119, 105, 110, 115]⟩, ⟨#[108, 97, 115, 116]⟩, ⟨#[109, 117, 108, 116, 105]⟩, ⟨#[104, 105, 100, 101]⟩, ⟨#[111, 114, 100, 101, 114, 101, 100]⟩, ⟨#[114, 101, 113, 117, 105, 114, 101]⟩, ⟨#[104, 111, 108, 100]⟩, ⟨#[105, 110, 115, 101, 114, 116]⟩, ⟨#[100, 101, 108, 101, 116, 101]⟩, ⟨#[97, 100, 100]⟩, ⟨#[102, 114, 111, 109]⟩, ⟨#[112, 117, 116]⟩, ⟨#[100, 114, 111, 112]⟩, ⟨#[97, 115, 115, 105, 103, 110]⟩, ⟨#[102, 111, 114]⟩, ⟨#[119, 104, 101, 114, 101]⟩, ⟨#[97, 110, 100]⟩, ⟨#[111, 114]⟩, ⟨#[110, 111, 116]⟩]
theorem symbols_o : CallO Tryz.prog 307 [] 9 1 (symL.map strC) id := by
 refine CallA.of pg ord307 Tryz.func307 rfl Tryz.ntmps307 Tryz.results307 rfl fun h0 G0 O0 => ?_
 repeat' (first|refine Sp.h ?_|refine Lk.r rfl ?_|refine Rf.mk rfl ?_|(refine All.mk ?_;intro _)|(apply Fk.r;focus repeat' first|infer_instance|constructor)|refine xN ?_|refine Rf.mk ⟨rfl, rfl, rfl⟩ ?_|fail)
 exact ⟨_, _, .one (.same (.z)), _, rfl, rfl⟩
theorem symbols_p : CallP Tryz.prog 307 [] (.sl 1 symL strC) := CallA.fzm (by decide) (List.map_id _).symm symbols_o
theorem keywords_o : CallO Tryz.prog 304 [] 9 1 (kwL.map strC) id := by
 refine CallA.of pg ord304 Tryz.func304 rfl Tryz.ntmps304 Tryz.results304 rfl fun h0 G0 O0 => ?_
 repeat' (first|refine Sp.h ?_|refine Lk.r rfl ?_|refine Rf.mk rfl ?_|(refine All.mk ?_;intro _)|(apply Fk.r;focus repeat' first|infer_instance|constructor)|refine xN ?_|refine Rf.mk ⟨rfl, rfl, rfl⟩ ?_|fail)
 exact ⟨_, _, .one (.same (.z)), _, rfl, rfl⟩
theorem keywords_p : CallP Tryz.prog 304 [] (.sl 1 kwL strC) := CallA.fzm (by decide) (List.map_id _).symm keywords_o
/-! ### Symbols -/
def symOK (s : ByteArray) (a : Nat) (q : ByteArray) : Prop := a + q.size ≤ s.size ∧ (s.extract a (a + q.size)).toList = q.toList
noncomputable instance (s : ByteArray) (a : Nat) (q : ByteArray) : Decidable (symOK s a q) := Classical.propDecidable _
noncomputable def symF (L : List ByteArray) (s : ByteArray) (a : Nat) : Nat := ((L.find? fun q => decide (symOK s a q)).map ByteArray.size).getD 0
theorem find_at {α : Type} {p : α → Bool} : ∀ {l : List α} {i : Nat} {x : α}, l[i]? = some x → p x = true → (∀ j y, j < i → l[j]? = some y → p y = false) → l.find? p = some x := by
 intro l
 induction l with
 | nil => intro i x h;cases h
 | cons a l ih =>
  intro i x h1 h2 h3
  cases i with
  | zero => cases h1;simp [h2]
  | succ i =>
   have h4 := h3 0 a (by omega) rfl
   rw [List.find?_cons, h4]
   exact ih h1 h2 fun j y hj hy => h3 (j + 1) y (by omega) hy
theorem symL_size : ∀ q ∈ symL, q.size ≤ 2 := by decide
theorem symF_le {s : ByteArray} {a : Nat} (ha : a ≤ s.size) : a + symF symL s a ≤ s.size := by
 unfold symF
 cases h : symL.find? fun q => decide (symOK s a q) with
 | none => exact ha
 | some q => exact (of_decide_eq_true (p := symOK s a q) (List.find?_some (p := fun q => decide (symOK s a q)) h)).1
theorem symbol_p {s : ByteArray} {a : Nat} (hs : s.size ≤ 1000000000) (ha : a ≤ s.size) : CallP Tryz.prog 305 [sv s, .val (.int .i64 a)] (.val (.int .i64 (symF symL s a))) := by
 obtain ⟨L, hL⟩ : ∃ L, L = symL := ⟨_, rfl⟩
 have hp := symbols_p
 have hsz := symL_size
 rw [← hL] at hp hsz ⊢
 refine CallA.of pg ord305 Tryz.func305 rfl Tryz.ntmps305 Tryz.results305 rfl fun h0 G0 O0 => ?_
 repeat' (first|refine Sp.h ?_|refine Lk.r rfl ?_|refine Rf.mk rfl ?_|(apply Cl.p (hp);(focus repeat' (first|exact Lend.nil|fail))))
 refine CA.loop (fun i : Nat => ⟨[(0, sv s), (1, .val (.int .i64 a)), (5, .sl 1 L strC), (6, .val (.int .i64 i))], []⟩) (fun i => i ≤ L.length ∧ ∀ j q, j < i → L[j]? = some q → ¬ symOK s a q) (fun i => L.length - i) 0 xE ⟨Nat.zero_le _, fun j q h => by omega⟩ ?_
 rintro i ⟨hi, hj⟩
 by_cases hin : i < L.length
 ·obtain ⟨q, hq⟩ := get_of hin
  have hqs := hsz q (List.mem_of_getElem? hq)
  repeat' (first|refine Sp.h ?_|refine Lk.r rfl ?_|refine Rf.mk rfl ?_|refine xA ?_|refine xB ?_|(refine Bd.mk ?_ ?_ <;> intro _)|refine OpK.r rfl ?_|(refine Im.mk ?_;intro _)|refine xI ?_|refine xN ?_|(apply Jx.r;(focus exact rfl);(focus first|omega|(simp;done)|(simp;omega)))|refine xD ?_|refine xO ?_|fail)
  all_goals first
   | (rename_i h1 h2;exact Fin.p rfl (by rw [symF, find_at hq (decide_eq_true (show symOK s a q from ⟨by omega, h2⟩)) fun j y h8 h9 => decide_eq_false (hj j y h8 h9)];rfl))
   | skip
  all_goals refine PA.lp (i + 1) xE ⟨⟨hin, fun j y h8 h9 => ?_⟩, by omega⟩
  all_goals
   by_cases hij : j = i
   ·subst hij;rw [hq] at h9;cases h9
    exact fun h7 => by have := h7.1;have := h7.2;first|contradiction|omega
   ·exact hj j y (by omega) h9
 ·repeat' (first|refine Sp.h ?_|refine Lk.r rfl ?_|refine Rf.mk rfl ?_|refine xB ?_|(refine Im.mk ?_;intro _)|refine xN ?_|fail)
  have hn : L.find? (fun q => decide (symOK s a q)) = none := List.find?_eq_none.2 fun q hq => by
   obtain ⟨j, hq⟩ := List.getElem?_of_mem hq
   have := hj j q (by have := (List.getElem?_eq_some_iff.1 hq).1;omega) hq
   simpa using this
  exact Fin.p rfl (by rw [symF, hn];rfl)
/-! ### Tokens -/
theorem token_c {s : ByteArray} {a : Nat} (hs : s.size ≤ 1000000000) (ha : a < s.size) (hw : ¬ isWhite (byteAt s a)) (h35 : byteAt s a ≠ 35) :
  CallA Tryz.prog 299 [sv s, .val (.int .i64 a)] [] fun r own => ∃ (k : Int) (b : Nat), r = .tup [.val (.int .i64 k), .val (.int .i64 b)] ∧ own = [] ∧ a < b ∧ b ≤ s.size := by
 refine CallA.of pg ord299 Tryz.func299 rfl Tryz.ntmps299 Tryz.results299 rfl fun h0 G0 O0 => ?_
 by_cases hl : isLetter (byteAt s a)
 ·repeat' (first|refine Sp.h ?_|refine Lk.r rfl ?_|refine Rf.mk rfl ?_|refine xA ?_|(apply Sx.r;(focus exact rfl);(focus first|omega|(simp;omega)))|(apply Cl.p (letter_p _);(focus repeat' (first|exact Lend.nil|apply Lend.keep|fail))))
  refine CA.loop (fun b : Nat => ⟨[(0, sv s), (1, .val (.int .i64 a)), (6, .val (.int .i64 b))], []⟩) (fun b => a ≤ b ∧ b ≤ s.size) (fun b => s.size - b) a xE ⟨Nat.le_refl _, by omega⟩ ?_
  rintro b ⟨hb1, hb2⟩
  by_cases hba : b = a
  ·subst hba
   repeat' (first|refine Sp.h ?_|refine Lk.r rfl ?_|refine Rf.mk rfl ?_|refine xA ?_|(apply Sx.r;(focus exact rfl);(focus first|omega|(simp;omega)))|refine xO ?_|(apply Cl.p (letter_p _);(focus repeat' (first|exact Lend.nil|apply Lend.keep|fail))))
   exact PA.lp (b + 1) xE ⟨⟨by omega, by omega⟩, by omega⟩
  ·repeat' (first|refine Sp.h ?_|refine Lk.r rfl ?_|refine Rf.mk rfl ?_|refine xA ?_|refine xB ?_|(refine Bd.mk ?_ ?_ <;> intro _)|refine OpK.r rfl ?_|(apply Jx.r;(focus exact rfl);(focus first|omega|(simp;done)|(simp;omega)))|refine xD ?_|(apply Sx.r;(focus exact rfl);(focus first|omega|(simp;omega)))|refine xO ?_|(apply Cl.p (letter_p _);(focus repeat' (first|exact Lend.nil|apply Lend.keep|fail)))|(apply Cl.p (digit_p _);(focus repeat' (first|exact Lend.nil|apply Lend.keep|fail))))
   all_goals try exact PA.lp (b + 1) xE ⟨⟨by omega, by omega⟩, by omega⟩
   all_goals repeat' (first|refine Sp.h ?_|refine Lk.r rfl ?_|refine Rf.mk rfl ?_|(refine Bd.mk ?_ ?_ <;> intro _)|refine OpK.r rfl ?_|refine xN ?_|(apply Cl.p (keywords_p);(focus repeat' (first|exact Lend.nil|apply Lend.keep|fail)))|(apply Cl.p (has_p _ _);(focus repeat' (first|exact Lend.nil|apply Lend.keep|fail))))
   all_goals exact ⟨_, _, .tup (.same (.same (.z))), _, b, rfl, rfl, by omega, hb2⟩
 ·by_cases hd : isDigit (byteAt s a)
  ·repeat' (first|refine Sp.h ?_|refine Lk.r rfl ?_|refine Rf.mk rfl ?_|refine xA ?_|refine xB ?_|(apply Sx.r;(focus exact rfl);(focus first|omega|(simp;omega)))|(apply Cl.p (letter_p _);(focus repeat' (first|exact Lend.nil|apply Lend.keep|fail)))|(apply Cl.p (digit_p _);(focus repeat' (first|exact Lend.nil|apply Lend.keep|fail))))
   refine CA.loop (fun b : Nat => ⟨[(0, sv s), (1, .val (.int .i64 a)), (6, .val (.int .i64 b))], []⟩) (fun b => a ≤ b ∧ b ≤ s.size) (fun b => s.size - b) a xE ⟨Nat.le_refl _, by omega⟩ ?_
   rintro b ⟨hb1, hb2⟩
   by_cases hba : b = a
   ·subst hba
    repeat' (first|refine Sp.h ?_|refine Lk.r rfl ?_|refine Rf.mk rfl ?_|refine xA ?_|(apply Sx.r;(focus exact rfl);(focus first|omega|(simp;omega)))|refine xO ?_|(apply Cl.p (digit_p _);(focus repeat' (first|exact Lend.nil|apply Lend.keep|fail))))
    exact PA.lp (b + 1) xE ⟨⟨by omega, by omega⟩, by omega⟩
   ·repeat' (first|refine Sp.h ?_|refine Lk.r rfl ?_|refine Rf.mk rfl ?_|refine xA ?_|refine xB ?_|(refine Bd.mk ?_ ?_ <;> intro _)|refine xN ?_|(apply Sx.r;(focus exact rfl);(focus first|omega|(simp;omega)))|refine xO ?_|(apply Cl.p (digit_p _);(focus repeat' (first|exact Lend.nil|apply Lend.keep|fail))))
    all_goals first
     | exact PA.lp (b + 1) xE ⟨⟨by omega, by omega⟩, by omega⟩
     | exact ⟨_, _, .tup (.same (.same (.z))), _, b, rfl, rfl, by omega, hb2⟩
  ·have hsy := symF_le (s := s) (a := a) (by omega)
   have hsp := symbol_p hs (Nat.le_of_lt ha)
   repeat' (first|refine Sp.h ?_|refine Lk.r rfl ?_|refine Rf.mk rfl ?_|refine xB ?_|(apply Sx.r;(focus exact rfl);(focus first|omega|(simp;omega)))|(apply Cl.p (letter_p _);(focus repeat' (first|exact Lend.nil|apply Lend.keep|fail)))|(apply Cl.p (digit_p _);(focus repeat' (first|exact Lend.nil|apply Lend.keep|fail))))
   by_cases hp : 0 < symF symL s a
   ·repeat' (first|refine Sp.h ?_|refine Lk.r rfl ?_|refine Rf.mk rfl ?_|refine xA ?_|refine xN ?_|refine xO ?_|(apply Cl.p (hsp);(focus repeat' (first|exact Lend.nil|apply Lend.keep|fail))))
    exact ⟨_, _, .tup (.same (.same (.z))), _, a + symF symL s a, rfl, rfl, by omega, hsy⟩
   ·repeat' (first|refine Sp.h ?_|refine Lk.r rfl ?_|refine Rf.mk rfl ?_|refine xB ?_|(apply Cl.p (hsp);(focus repeat' (first|exact Lend.nil|apply Lend.keep|fail))))
    refine CA.loop (fun b : Nat => ⟨[(0, sv s), (1, .val (.int .i64 a)), (6, .val (.int .i64 b))], []⟩) (fun b => a ≤ b ∧ b ≤ s.size) (fun b => s.size - b) a xE ⟨Nat.le_refl _, by omega⟩ ?_
    rintro b ⟨hb1, hb2⟩
    by_cases hba : b = a
    ·subst hba
     repeat' (first|refine Sp.h ?_|refine Lk.r rfl ?_|refine Rf.mk rfl ?_|refine xA ?_|refine xB ?_|(apply Sx.r;(focus exact rfl);(focus first|omega|(simp;omega)))|(apply Cl.p (white_p _);(focus repeat' (first|exact Lend.nil|apply Lend.keep|fail)))|(apply Cl.p (letter_p _);(focus repeat' (first|exact Lend.nil|apply Lend.keep|fail))))
     repeat' (first|refine Sp.h ?_|refine Lk.r rfl ?_|refine Rf.mk rfl ?_|refine xA ?_|refine xB ?_|refine xO ?_|(apply Cl.p (digit_p _);(focus repeat' (first|exact Lend.nil|apply Lend.keep|fail)))|(apply Cl.p (hsp);(focus repeat' (first|exact Lend.nil|apply Lend.keep|fail))))
     exact PA.lp (b + 1) xE ⟨⟨by omega, by omega⟩, by omega⟩
    ·have hsb := symbol_p hs hb2
     repeat' (first|refine Sp.h ?_|refine Lk.r rfl ?_|refine Rf.mk rfl ?_|refine xA ?_|refine xB ?_|(refine Bd.mk ?_ ?_ <;> intro _)|refine xN ?_|(apply Sx.r;(focus exact rfl);(focus first|omega|(simp;omega)))|(apply Cl.p (white_p _);(focus repeat' (first|exact Lend.nil|apply Lend.keep|fail)))|(apply Cl.p (letter_p _);(focus repeat' (first|exact Lend.nil|apply Lend.keep|fail))))
     all_goals repeat' (first|refine Sp.h ?_|refine Lk.r rfl ?_|refine Rf.mk rfl ?_|refine xA ?_|refine xB ?_|(refine Bd.mk ?_ ?_ <;> intro _)|refine xN ?_|refine xO ?_|(apply Cl.p (digit_p _);(focus repeat' (first|exact Lend.nil|apply Lend.keep|fail)))|(apply Cl.p (hsb);(focus repeat' (first|exact Lend.nil|apply Lend.keep|fail))))
     all_goals first
      | exact PA.lp (b + 1) xE ⟨⟨by omega, by omega⟩, by omega⟩
      | exact ⟨_, _, .tup (.same (.same (.z))), _, b, rfl, rfl, by omega, hb2⟩
/-! ### Scanning -/
abbrev TokT := Int × Int × Int × Int
def tokC (x : TokT) : List AV := [.val (.int .i64 x.1), .val (.int .i64 x.2.1), .val (.int .i64 x.2.2.1), .val (.int .i64 x.2.2.2)]
instance {a b c d : Int} : Inv tokC [.val (.int .i64 a), .val (.int .i64 b), .val (.int .i64 c), .val (.int .i64 d)] (a, b, c, d) := ⟨rfl⟩
theorem scan_c (s : ByteArray) : CallA Tryz.prog 289 [sv s] [] fun r own => ∃ (l : List TokT) (e : Int), r = .tup [.sl 4 l tokC, .val (.int .i64 e)] ∧ own = [] := by
 refine CallA.of pg ord289 Tryz.func289 rfl Tryz.ntmps289 Tryz.results289 rfl fun h0 G0 O0 => ?_
 repeat' (first|refine Sp.h ?_|refine Lk.r rfl ?_|refine Rf.mk rfl ?_|(refine Bd.mk ?_ ?_ <;> intro _)|(refine All.mk ?_;intro _)|(apply Fk.r;focus repeat' first|infer_instance|constructor)|refine xN ?_|refine Rf.mk ⟨rfl, rfl, rfl⟩ ?_|fail)
 ·exact ⟨_, _, .tup (.nilr (.same (.z))), [], _, rfl, rfl⟩
 rename_i hsz v
 have hs : s.size ≤ 1000000000 := by omega
 apply CA.retype (m := ([] : List TokT)) (g := tokC)
 focus (repeat constructor)
 focus rfl
 refine CA.loop (fun x : Nat × Value × List TokT => ⟨[(0, sv s), (5, .val (.int .i64 x.1)), (4, .ow x.2.1)], [arrR x.2.1 347 4 x.2.2 tokC]⟩) (fun x => x.1 ≤ s.size ∧ x.2.2.length ≤ x.1) (fun x => s.size - x.1) (0, v, []) xE ⟨Nat.zero_le _, Nat.le_refl _⟩ ?_
 rintro ⟨a, v, l⟩ ⟨ha, hl⟩
 simp only at ha hl
 obtain ⟨j, hj⟩ := Skip.ex s _ a rfl
 obtain ⟨hj1, hj2, hj3⟩ := hj.le ha
 have hsk := skip_p hs ha hj
 by_cases hjl : j < s.size
 ·obtain ⟨hj4, hj5⟩ := hj3 hjl
  have htk := token_c hs hjl hj4 hj5
  repeat' (first|refine Sp.h ?_|refine Lk.r rfl ?_|refine Rf.mk rfl ?_|refine xA ?_|(apply Cl.p (hsk);(focus repeat' (first|exact Lend.nil|apply Lend.keep|fail))))
  refine xW (htk) ?_
  rintro _ _ ⟨k, b, rfl, rfl, hb1, hb2⟩
  repeat' (first|refine Sp.h ?_|refine Lk.r rfl ?_|refine Rf.mk rfl ?_|refine xP ?_|(refine All.mk ?_;intro _)|refine xU ?_|refine Ce.r ?_|(apply Fk.r;focus repeat' first|infer_instance|constructor)|refine Rf.mk ⟨rfl, rfl⟩ ?_|refine Rf.mk ⟨rfl, rfl, rfl⟩ ?_|(apply Mp.lit;(focus repeat (first|exact MpL.nil|(apply MpL.cons;(focus rfl))|(apply MpL.inv;(focus repeat constructor);(focus infer_instance)))))|fail)
  exact PA.lp (b, _, l ++ [(k, (a : Int), (j : Int), (b : Int))]) xE ⟨⟨hb2, by simp only [List.length_append, List.length_singleton];omega⟩, by simp only;omega⟩
 ·repeat' (first|refine Sp.h ?_|refine Lk.r rfl ?_|refine Rf.mk rfl ?_|refine xB ?_|refine xP ?_|(refine All.mk ?_;intro _)|refine xU ?_|refine Ce.r ?_|(apply Fk.r;focus repeat' first|infer_instance|constructor)|refine xN ?_|refine Rf.mk ⟨rfl, rfl⟩ ?_|refine Rf.mk ⟨rfl, rfl, rfl⟩ ?_|(apply Mp.lit;(focus repeat (first|exact MpL.nil|(apply MpL.cons;(focus rfl))|(apply MpL.inv;(focus repeat constructor);(focus infer_instance)))))|(apply Cl.p (hsk);(focus repeat' (first|exact Lend.nil|apply Lend.keep|fail))))
  exact ⟨_, _, .tup (.fz (by repeat constructor) (by simp only [List.length_append, List.length_singleton];omega) (.same (.z))), _, _, rfl, rfl⟩
theorem kind_c (s : ByteArray) : CallA Tryz.prog 270 [sv s] [] fun r own => ∃ k : Int, r = .val (.int .i64 k) ∧ own = [] := by
 refine CallA.of pg ord270 Tryz.func270 rfl Tryz.ntmps270 Tryz.results270 rfl fun h0 G0 O0 => ?_
 repeat' (first|refine Sp.h ?_|refine Lk.r rfl ?_|refine Rf.mk rfl ?_|fail)
 refine xW (scan_c s) ?_
 rintro _ _ ⟨l, e, rfl, rfl⟩
 by_cases hl : l.length = 2
 ·obtain ⟨x, hx⟩ := get_of (l := l) (i := 0) (by omega)
  repeat' (first|refine Sp.h ?_|refine Lk.r rfl ?_|refine Rf.mk rfl ?_|refine xA ?_|refine xB ?_|(refine Bd.mk ?_ ?_ <;> intro _)|(refine Im.mk ?_;intro _)|refine xI ?_|refine xN ?_|fail)
  all_goals exact ⟨_, _, .one (.same (.z)), _, rfl, rfl⟩
 ·repeat' (first|refine Sp.h ?_|refine Lk.r rfl ?_|refine Rf.mk rfl ?_|refine xA ?_|refine xB ?_|(refine Bd.mk ?_ ?_ <;> intro _)|(refine Im.mk ?_;intro _)|refine xN ?_|fail)
  all_goals exact ⟨_, _, .one (.same (.z)), _, rfl, rfl⟩
abbrev CallB (P : Program) (f : FuncId) (args : List AV) : Prop := CallA P f args [] fun r own => ∃ b, r = .val (.bool b) ∧ own = []
theorem name_c (s : ByteArray) : CallB Tryz.prog 231 [sv s] := by
 refine CallA.of pg ord231 Tryz.func231 rfl Tryz.ntmps231 Tryz.results231 rfl fun h0 G0 O0 => ?_
 repeat' (first|refine Sp.h ?_|refine Lk.r rfl ?_|refine Rf.mk rfl ?_|fail)
 refine xW (kind_c s) ?_
 rintro _ _ ⟨k, rfl, rfl⟩
 repeat' (first|refine Sp.h ?_|refine Lk.r rfl ?_|refine Rf.mk rfl ?_|refine xA ?_|refine xB ?_|(refine Bd.mk ?_ ?_ <;> intro _)|refine xN ?_|fail)
 all_goals exact ⟨_, _, .one (.same (.z)), _, rfl, rfl⟩
end Go.Proofs.YtmllihbhphnolaaGreat
