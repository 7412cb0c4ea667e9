/- Part 4 of the ground of this proof: what its texts say of the model, the program and the plain data; conditions: those that are named. -/
import Derived.Test.YtmllihbhphnolaaGreatProg
import Derived.KernelRfl
import Derived.Test.YtmllihbhphnolaaGreatRows
import Derived.Test.YtmllihbhphnolaaGreatP03
namespace Go.Proofs.YtmllihbhphnolaaGreat
open Go Go.CF
def ti3 : TI := ⟨.int .i64, 1, 8, .int .i64 0⟩ -- int
theorem tok3 : TOK Tryz.prog 3 ti3 := TOK.mk' (by kernel_rfl) (by kernel_rfl)
def ti4 : TI := ⟨.bool, 1, 1, .bool false⟩ -- bool
theorem tok4 : TOK Tryz.prog 4 ti4 := TOK.mk' (by kernel_rfl) (by kernel_rfl)
def ti5 : TI := ⟨.int .u8, 1, 1, .int .u8 0⟩ -- uint8
theorem tok5 : TOK Tryz.prog 5 ti5 := TOK.mk' (by kernel_rfl) (by kernel_rfl)
def ti9 : TI := ⟨.str, 1, 16, .string ⟨#[]⟩⟩ -- string
theorem tok9 : TOK Tryz.prog 9 ti9 := TOK.mk' (by kernel_rfl) (by kernel_rfl)
def ti22 : TI := ⟨.slice 3, 1, 24, .slice none 0 0⟩ -- []int
theorem tok22 : TOK Tryz.prog 22 ti22 := TOK.mk' (by kernel_rfl) (by kernel_rfl)
def ti23 : TI := ⟨.slice 157, 1, 24, .slice none 0 0⟩ -- []api.Table
theorem tok23 : TOK Tryz.prog 23 ti23 := TOK.mk' (by kernel_rfl) (by kernel_rfl)
def ti24 : TI := ⟨.slice 9, 1, 24, .slice none 0 0⟩ -- []string
theorem tok24 : TOK Tryz.prog 24 ti24 := TOK.mk' (by kernel_rfl) (by kernel_rfl)
def ti25 : TI := ⟨.slice 225, 1, 24, .slice none 0 0⟩ -- []api.Constraint
theorem tok25 : TOK Tryz.prog 25 ti25 := TOK.mk' (by kernel_rfl) (by kernel_rfl)
def ti26 : TI := ⟨.slice 227, 1, 24, .slice none 0 0⟩ -- []api.Operation
theorem tok26 : TOK Tryz.prog 26 ti26 := TOK.mk' (by kernel_rfl) (by kernel_rfl)
def ti27 : TI := ⟨.slice 151, 1, 24, .slice none 0 0⟩ -- []api.Action
theorem tok27 : TOK Tryz.prog 27 ti27 := TOK.mk' (by kernel_rfl) (by kernel_rfl)
def ti28 : TI := ⟨.slice 303, 1, 24, .slice none 0 0⟩ -- []api.Hide
theorem tok28 : TOK Tryz.prog 28 ti28 := TOK.mk' (by kernel_rfl) (by kernel_rfl)
def ti30 : TI := ⟨.struct [(0, 22, 1), (1, 23, 1), (2, 24, 1), (3, 25, 1), (4, 26, 1), (5, 27, 1), (6, 28, 1)], 7, 168, .agg #[.slice none 0 0, .slice none 0 0, .slice none 0 0, .slice none 0 0, .slice none 0 0, .slice none 0 0, .slice none 0 0]⟩ -- api.Model
theorem tok30 : TOK Tryz.prog 30 ti30 := TOK.mk' (by kernel_rfl) (by kernel_rfl)
def ti31 : TI := ⟨.slice 37, 1, 24, .slice none 0 0⟩ -- []api.Event
theorem tok31 : TOK Tryz.prog 31 ti31 := TOK.mk' (by kernel_rfl) (by kernel_rfl)
def ti33 : TI := ⟨.struct [(0, 3, 1), (1, 3, 1), (2, 3, 1)], 3, 24, .agg #[.int .i64 0, .int .i64 0, .int .i64 0]⟩ -- api.Right
theorem tok33 : TOK Tryz.prog 33 ti33 := TOK.mk' (by kernel_rfl) (by kernel_rfl)
def ti35 : TI := ⟨.struct [(0, 33, 3), (3, 3, 1)], 4, 32, .agg #[.int .i64 0, .int .i64 0, .int .i64 0, .int .i64 0]⟩ -- api.Need
theorem tok35 : TOK Tryz.prog 35 ti35 := TOK.mk' (by kernel_rfl) (by kernel_rfl)
def ti37 : TI := ⟨.struct [(0, 3, 1), (1, 3, 1), (2, 3, 1), (3, 22, 1), (4, 3, 1), (5, 3, 1), (6, 35, 4), (10, 3, 1), (11, 3, 1), (12, 3, 1)], 13, 120, .agg #[.int .i64 0, .int .i64 0, .int .i64 0, .slice none 0 0, .int .i64 0, .int .i64 0, .int .i64 0, .int .i64 0, .int .i64 0, .int .i64 0, .int .i64 0, .int .i64 0, .int .i64 0]⟩ -- api.Event
theorem tok37 : TOK Tryz.prog 37 ti37 := TOK.mk' (by kernel_rfl) (by kernel_rfl)
def ti40 : TI := ⟨.ptr 165, 1, 8, .pointer none⟩ -- *store.Store
theorem tok40 : TOK Tryz.prog 40 ti40 := TOK.mk' (by kernel_rfl) (by kernel_rfl)
def ti44 : TI := ⟨.int .i64, 1, 8, .int .i64 0⟩ -- api.Errno
theorem tok44 : TOK Tryz.prog 44 ti44 := TOK.mk' (by kernel_rfl) (by kernel_rfl)
def ti48 : TI := ⟨.func, 1, 8, .nilFunc⟩ -- func(api.Event) bool
theorem tok48 : TOK Tryz.prog 48 ti48 := TOK.mk' (by kernel_rfl) (by kernel_rfl)
def ti53 : TI := ⟨.struct [(0, 3, 1), (1, 3, 1)], 2, 16, .agg #[.int .i64 0, .int .i64 0]⟩ -- api.Dot
theorem tok53 : TOK Tryz.prog 53 ti53 := TOK.mk' (by kernel_rfl) (by kernel_rfl)
def ti58 : TI := ⟨.ptr 185, 1, 8, .pointer none⟩ -- *antientropy.Peer
theorem tok58 : TOK Tryz.prog 58 ti58 := TOK.mk' (by kernel_rfl) (by kernel_rfl)
def ti65 : TI := ⟨.struct [(0, 22, 1), (1, 31, 1)], 2, 48, .agg #[.slice none 0 0, .slice none 0 0]⟩ -- confluentref33.Buffer
theorem tok65 : TOK Tryz.prog 65 ti65 := TOK.mk' (by kernel_rfl) (by kernel_rfl)
def ti71 : TI := ⟨.slice 123, 1, 24, .slice none 0 0⟩ -- []api.Merged
theorem tok71 : TOK Tryz.prog 71 ti71 := TOK.mk' (by kernel_rfl) (by kernel_rfl)
def ti72 : TI := ⟨.slice 22, 1, 24, .slice none 0 0⟩ -- [][]int
theorem tok72 : TOK Tryz.prog 72 ti72 := TOK.mk' (by kernel_rfl) (by kernel_rfl)
def ti73 : TI := ⟨.slice 72, 1, 24, .slice none 0 0⟩ -- [][][]int
theorem tok73 : TOK Tryz.prog 73 ti73 := TOK.mk' (by kernel_rfl) (by kernel_rfl)
def ti75 : TI := ⟨.struct [(0, 22, 1), (1, 3, 1), (2, 22, 1), (3, 71, 1), (4, 72, 1), (5, 73, 1), (6, 22, 1)], 7, 152, .agg #[.slice none 0 0, .int .i64 0, .slice none 0 0, .slice none 0 0, .slice none 0 0, .slice none 0 0, .slice none 0 0]⟩ -- api.Base
theorem tok75 : TOK Tryz.prog 75 ti75 := TOK.mk' (by kernel_rfl) (by kernel_rfl)
def ti80 : TI := ⟨.struct [(0, 75, 7), (7, 31, 1)], 8, 176, .agg #[.slice none 0 0, .int .i64 0, .slice none 0 0, .slice none 0 0, .slice none 0 0, .slice none 0 0, .slice none 0 0, .slice none 0 0]⟩ -- confluentref35.Store
theorem tok80 : TOK Tryz.prog 80 ti80 := TOK.mk' (by kernel_rfl) (by kernel_rfl)
def ti84 : TI := ⟨.struct [(0, 80, 8), (8, 65, 2), (10, 44, 1)], 11, 232, .agg #[.slice none 0 0, .int .i64 0, .slice none 0 0, .slice none 0 0, .slice none 0 0, .slice none 0 0, .slice none 0 0, .slice none 0 0, .slice none 0 0, .slice none 0 0, .int .i64 0]⟩ -- confluentref38.Peer
theorem tok84 : TOK Tryz.prog 84 ti84 := TOK.mk' (by kernel_rfl) (by kernel_rfl)
def ti86 : TI := ⟨.slice 31, 1, 24, .slice none 0 0⟩ -- [][]api.Event
theorem tok86 : TOK Tryz.prog 86 ti86 := TOK.mk' (by kernel_rfl) (by kernel_rfl)
def ti94 : TI := ⟨.slice 5, 1, 24, .slice none 0 0⟩ -- []uint8
theorem tok94 : TOK Tryz.prog 94 ti94 := TOK.mk' (by kernel_rfl) (by kernel_rfl)
def ti102 : TI := ⟨.slice 106, 1, 24, .slice none 0 0⟩ -- []api.Span
theorem tok102 : TOK Tryz.prog 102 ti102 := TOK.mk' (by kernel_rfl) (by kernel_rfl)
def ti106 : TI := ⟨.struct [(0, 3, 1), (1, 3, 1), (2, 3, 1)], 3, 24, .agg #[.int .i64 0, .int .i64 0, .int .i64 0]⟩ -- api.Span
theorem tok106 : TOK Tryz.prog 106 ti106 := TOK.mk' (by kernel_rfl) (by kernel_rfl)
def ti121 : TI := ⟨.slice 125, 1, 24, .slice none 0 0⟩ -- []api.Mark
theorem tok121 : TOK Tryz.prog 121 ti121 := TOK.mk' (by kernel_rfl) (by kernel_rfl)
def ti123 : TI := ⟨.struct [(0, 4, 1), (1, 4, 1), (2, 121, 1)], 3, 32, .agg #[.bool false, .bool false, .slice none 0 0]⟩ -- api.Merged
theorem tok123 : TOK Tryz.prog 123 ti123 := TOK.mk' (by kernel_rfl) (by kernel_rfl)
def ti125 : TI := ⟨.struct [(0, 3, 1), (1, 3, 1), (2, 3, 1), (3, 3, 1)], 4, 32, .agg #[.int .i64 0, .int .i64 0, .int .i64 0, .int .i64 0]⟩ -- api.Mark
theorem tok125 : TOK Tryz.prog 125 ti125 := TOK.mk' (by kernel_rfl) (by kernel_rfl)
def ti138 : TI := ⟨.slice 58, 1, 24, .slice none 0 0⟩ -- []*antientropy.Peer
theorem tok138 : TOK Tryz.prog 138 ti138 := TOK.mk' (by kernel_rfl) (by kernel_rfl)
def ti145 : TI := ⟨.slice 160, 1, 24, .slice none 0 0⟩ -- []api.Change
theorem tok145 : TOK Tryz.prog 145 ti145 := TOK.mk' (by kernel_rfl) (by kernel_rfl)
def ti146 : TI := ⟨.slice 223, 1, 24, .slice none 0 0⟩ -- []api.Row
theorem tok146 : TOK Tryz.prog 146 ti146 := TOK.mk' (by kernel_rfl) (by kernel_rfl)
def ti147 : TI := ⟨.slice 153, 1, 24, .slice none 0 0⟩ -- []api.Update
theorem tok147 : TOK Tryz.prog 147 ti147 := TOK.mk' (by kernel_rfl) (by kernel_rfl)
def ti149 : TI := ⟨.struct [(0, 145, 1), (1, 146, 1), (2, 147, 1)], 3, 72, .agg #[.slice none 0 0, .slice none 0 0, .slice none 0 0]⟩ -- api.Effect
theorem tok149 : TOK Tryz.prog 149 ti149 := TOK.mk' (by kernel_rfl) (by kernel_rfl)
def ti151 : TI := ⟨.struct [(0, 3, 1), (1, 22, 1), (2, 149, 3)], 5, 104, .agg #[.int .i64 0, .slice none 0 0, .slice none 0 0, .slice none 0 0, .slice none 0 0]⟩ -- api.Action
theorem tok151 : TOK Tryz.prog 151 ti151 := TOK.mk' (by kernel_rfl) (by kernel_rfl)
def ti153 : TI := ⟨.struct [(0, 3, 1), (1, 3, 1), (2, 3, 1)], 3, 24, .agg #[.int .i64 0, .int .i64 0, .int .i64 0]⟩ -- api.Update
theorem tok153 : TOK Tryz.prog 153 ti153 := TOK.mk' (by kernel_rfl) (by kernel_rfl)
def ti155 : TI := ⟨.struct [(0, 3, 1), (1, 3, 1)], 2, 16, .agg #[.int .i64 0, .int .i64 0]⟩ -- api.Range
theorem tok155 : TOK Tryz.prog 155 ti155 := TOK.mk' (by kernel_rfl) (by kernel_rfl)
def ti157 : TI := ⟨.struct [(0, 9, 1), (1, 3, 1), (2, 22, 1), (3, 155, 2), (5, 3, 1)], 6, 72, .agg #[.string ⟨#[]⟩, .int .i64 0, .slice none 0 0, .int .i64 0, .int .i64 0, .int .i64 0]⟩ -- api.Table
theorem tok157 : TOK Tryz.prog 157 ti157 := TOK.mk' (by kernel_rfl) (by kernel_rfl)
def ti160 : TI := ⟨.struct [(0, 3, 1), (1, 3, 1)], 2, 16, .agg #[.int .i64 0, .int .i64 0]⟩ -- api.Change
theorem tok160 : TOK Tryz.prog 160 ti160 := TOK.mk' (by kernel_rfl) (by kernel_rfl)
def ti163 : TI := ⟨.struct [(0, 22, 1), (1, 3, 1), (2, 22, 1), (3, 71, 1), (4, 22, 1)], 5, 104, .agg #[.slice none 0 0, .int .i64 0, .slice none 0 0, .slice none 0 0, .slice none 0 0]⟩ -- store.now
theorem tok163 : TOK Tryz.prog 163 ti163 := TOK.mk' (by kernel_rfl) (by kernel_rfl)
def ti165 : TI := ⟨.struct [(0, 30, 7), (7, 75, 7), (14, 31, 1), (15, 163, 5)], 20, 448, .agg #[.slice none 0 0, .slice none 0 0, .slice none 0 0, .slice none 0 0, .slice none 0 0, .slice none 0 0, .slice none 0 0, .slice none 0 0, .int .i64 0, .slice none 0 0, .slice none 0 0, .slice none 0 0, .slice none 0 0, .slice none 0 0, .slice none 0 0, .slice none 0 0, .int .i64 0, .slice none 0 0, .slice none 0 0, .slice none 0 0]⟩ -- store.Store
theorem tok165 : TOK Tryz.prog 165 ti165 := TOK.mk' (by kernel_rfl) (by kernel_rfl)
def ti167 : TI := ⟨.func, 1, 8, .nilFunc⟩ -- func(*api.Event) bool
theorem tok167 : TOK Tryz.prog 167 ti167 := TOK.mk' (by kernel_rfl) (by kernel_rfl)
def ti169 : TI := ⟨.map 3 167, 1, 8, .map none⟩ -- map[int]func(*api.Event) bool
theorem tok169 : TOK Tryz.prog 169 ti169 := TOK.mk' (by kernel_rfl) (by kernel_rfl)
def ti171 : TI := ⟨.ptr 37, 1, 8, .pointer none⟩ -- *api.Event
theorem tok171 : TOK Tryz.prog 171 ti171 := TOK.mk' (by kernel_rfl) (by kernel_rfl)
def ti175 : TI := ⟨.struct [(0, 40, 1), (1, 37, 13), (14, 163, 5)], 19, 232, .agg #[.pointer none, .int .i64 0, .int .i64 0, .int .i64 0, .slice none 0 0, .int .i64 0, .int .i64 0, .int .i64 0, .int .i64 0, .int .i64 0, .int .i64 0, .int .i64 0, .int .i64 0, .int .i64 0, .slice none 0 0, .int .i64 0, .slice none 0 0, .slice none 0 0, .slice none 0 0]⟩ -- store.step
theorem tok175 : TOK Tryz.prog 175 ti175 := TOK.mk' (by kernel_rfl) (by kernel_rfl)
def ti176 : TI := ⟨.func, 1, 8, .nilFunc⟩ -- func() api.Errno
theorem tok176 : TOK Tryz.prog 176 ti176 := TOK.mk' (by kernel_rfl) (by kernel_rfl)
def ti177 : TI := ⟨.slice 176, 1, 24, .slice none 0 0⟩ -- []func() api.Errno
theorem tok177 : TOK Tryz.prog 177 ti177 := TOK.mk' (by kernel_rfl) (by kernel_rfl)
def ti179 : TI := ⟨.func, 1, 8, .nilFunc⟩ -- func(int) bool
theorem tok179 : TOK Tryz.prog 179 ti179 := TOK.mk' (by kernel_rfl) (by kernel_rfl)
def ti181 : TI := ⟨.ptr 234, 1, 8, .pointer none⟩ -- *delivery.Buffer
theorem tok181 : TOK Tryz.prog 181 ti181 := TOK.mk' (by kernel_rfl) (by kernel_rfl)
def ti185 : TI := ⟨.struct [(0, 40, 1), (1, 181, 1), (2, 44, 1)], 3, 24, .agg #[.pointer none, .pointer none, .int .i64 0]⟩ -- antientropy.Peer
theorem tok185 : TOK Tryz.prog 185 ti185 := TOK.mk' (by kernel_rfl) (by kernel_rfl)
def ti196 : TI := ⟨.func, 1, 8, .nilFunc⟩ -- func(int, int) int
theorem tok196 : TOK Tryz.prog 196 ti196 := TOK.mk' (by kernel_rfl) (by kernel_rfl)
def ti197 : TI := ⟨.map 53 4, 1, 8, .map none⟩ -- map[api.Dot]bool
theorem tok197 : TOK Tryz.prog 197 ti197 := TOK.mk' (by kernel_rfl) (by kernel_rfl)
def ti208 : TI := ⟨.func, 1, 8, .nilFunc⟩ -- func([]event.written) []int
theorem tok208 : TOK Tryz.prog 208 ti208 := TOK.mk' (by kernel_rfl) (by kernel_rfl)
def ti209 : TI := ⟨.map 3 208, 1, 8, .map none⟩ -- map[int]func([]event.written) []int
theorem tok209 : TOK Tryz.prog 209 ti209 := TOK.mk' (by kernel_rfl) (by kernel_rfl)
def ti211 : TI := ⟨.slice 266, 1, 24, .slice none 0 0⟩ -- []event.written
theorem tok211 : TOK Tryz.prog 211 ti211 := TOK.mk' (by kernel_rfl) (by kernel_rfl)
def ti215 : TI := ⟨.int .u64, 1, 8, .int .u64 0⟩ -- uint
theorem tok215 : TOK Tryz.prog 215 ti215 := TOK.mk' (by kernel_rfl) (by kernel_rfl)
def ti218 : TI := ⟨.func, 1, 8, .nilFunc⟩ -- func(api.Event, api.Event) int
theorem tok218 : TOK Tryz.prog 218 ti218 := TOK.mk' (by kernel_rfl) (by kernel_rfl)
def ti220 : TI := ⟨.struct [(0, 3, 1), (1, 3, 1)], 2, 16, .agg #[.int .i64 0, .int .i64 0]⟩ -- api.Term
theorem tok220 : TOK Tryz.prog 220 ti220 := TOK.mk' (by kernel_rfl) (by kernel_rfl)
def ti221 : TI := ⟨.slice 220, 1, 24, .slice none 0 0⟩ -- []api.Term
theorem tok221 : TOK Tryz.prog 221 ti221 := TOK.mk' (by kernel_rfl) (by kernel_rfl)
def ti223 : TI := ⟨.struct [(0, 221, 1), (1, 3, 1)], 2, 32, .agg #[.slice none 0 0, .int .i64 0]⟩ -- api.Row
theorem tok223 : TOK Tryz.prog 223 ti223 := TOK.mk' (by kernel_rfl) (by kernel_rfl)
def ti225 : TI := ⟨.struct [(0, 3, 1), (1, 3, 1), (2, 223, 2), (4, 3, 1), (5, 3, 1)], 6, 64, .agg #[.int .i64 0, .int .i64 0, .slice none 0 0, .int .i64 0, .int .i64 0, .int .i64 0]⟩ -- api.Constraint
theorem tok225 : TOK Tryz.prog 225 ti225 := TOK.mk' (by kernel_rfl) (by kernel_rfl)
def ti227 : TI := ⟨.struct [(0, 9, 1), (1, 4, 1), (2, 22, 1)], 3, 48, .agg #[.string ⟨#[]⟩, .bool false, .slice none 0 0]⟩ -- api.Operation
theorem tok227 : TOK Tryz.prog 227 ti227 := TOK.mk' (by kernel_rfl) (by kernel_rfl)
def ti228 : TI := ⟨.map 53 37, 1, 8, .map none⟩ -- map[api.Dot]api.Event
theorem tok228 : TOK Tryz.prog 228 ti228 := TOK.mk' (by kernel_rfl) (by kernel_rfl)
def ti234 : TI := ⟨.struct [(0, 22, 1), (1, 228, 1)], 2, 32, .agg #[.slice none 0 0, .map none]⟩ -- delivery.Buffer
theorem tok234 : TOK Tryz.prog 234 ti234 := TOK.mk' (by kernel_rfl) (by kernel_rfl)
def ti236 : TI := ⟨.func, 1, 8, .nilFunc⟩ -- func(api.Span) bool
theorem tok236 : TOK Tryz.prog 236 ti236 := TOK.mk' (by kernel_rfl) (by kernel_rfl)
def ti248 : TI := ⟨.map 255 252, 1, 8, .map none⟩ -- map[merge.rule]func(merge.change) api.Errno
theorem tok248 : TOK Tryz.prog 248 ti248 := TOK.mk' (by kernel_rfl) (by kernel_rfl)
def ti250 : TI := ⟨.map 3 153, 1, 8, .map none⟩ -- map[int]api.Update
theorem tok250 : TOK Tryz.prog 250 ti250 := TOK.mk' (by kernel_rfl) (by kernel_rfl)
def ti252 : TI := ⟨.func, 1, 8, .nilFunc⟩ -- func(merge.change) api.Errno
theorem tok252 : TOK Tryz.prog 252 ti252 := TOK.mk' (by kernel_rfl) (by kernel_rfl)
def ti255 : TI := ⟨.struct [(0, 3, 1), (1, 3, 1)], 2, 16, .agg #[.int .i64 0, .int .i64 0]⟩ -- merge.rule
theorem tok255 : TOK Tryz.prog 255 ti255 := TOK.mk' (by kernel_rfl) (by kernel_rfl)
def ti256 : TI := ⟨.ptr 123, 1, 8, .pointer none⟩ -- *api.Merged
theorem tok256 : TOK Tryz.prog 256 ti256 := TOK.mk' (by kernel_rfl) (by kernel_rfl)
def ti258 : TI := ⟨.struct [(0, 256, 1), (1, 37, 13), (14, 125, 4)], 18, 160, .agg #[.pointer none, .int .i64 0, .int .i64 0, .int .i64 0, .slice none 0 0, .int .i64 0, .int .i64 0, .int .i64 0, .int .i64 0, .int .i64 0, .int .i64 0, .int .i64 0, .int .i64 0, .int .i64 0, .int .i64 0, .int .i64 0, .int .i64 0, .int .i64 0]⟩ -- merge.change
theorem tok258 : TOK Tryz.prog 258 ti258 := TOK.mk' (by kernel_rfl) (by kernel_rfl)
def ti266 : TI := ⟨.struct [(0, 37, 13), (13, 153, 3)], 16, 144, .agg #[.int .i64 0, .int .i64 0, .int .i64 0, .slice none 0 0, .int .i64 0, .int .i64 0, .int .i64 0, .int .i64 0, .int .i64 0, .int .i64 0, .int .i64 0, .int .i64 0, .int .i64 0, .int .i64 0, .int .i64 0, .int .i64 0]⟩ -- event.written
theorem tok266 : TOK Tryz.prog 266 ti266 := TOK.mk' (by kernel_rfl) (by kernel_rfl)
def ti268 : TI := ⟨.func, 1, 8, .nilFunc⟩ -- func(event.written) bool
theorem tok268 : TOK Tryz.prog 268 ti268 := TOK.mk' (by kernel_rfl) (by kernel_rfl)
def ti269 : TI := ⟨.func, 1, 8, .nilFunc⟩ -- func([]event.written, int) []event.written
theorem tok269 : TOK Tryz.prog 269 ti269 := TOK.mk' (by kernel_rfl) (by kernel_rfl)
def ti274 : TI := ⟨.func, 1, 8, .nilFunc⟩ -- func(event.written, event.written) int
theorem tok274 : TOK Tryz.prog 274 ti274 := TOK.mk' (by kernel_rfl) (by kernel_rfl)
def ti279 : TI := ⟨.int .i64, 1, 8, .int .i64 0⟩ -- slices.sortedHint
theorem tok279 : TOK Tryz.prog 279 ti279 := TOK.mk' (by kernel_rfl) (by kernel_rfl)
def ti287 : TI := ⟨.int .u32, 1, 4, .int .u32 0⟩ -- uint32
theorem tok287 : TOK Tryz.prog 287 ti287 := TOK.mk' (by kernel_rfl) (by kernel_rfl)
def ti289 : TI := ⟨.int .u64, 1, 8, .int .u64 0⟩ -- uint64
theorem tok289 : TOK Tryz.prog 289 ti289 := TOK.mk' (by kernel_rfl) (by kernel_rfl)
def ti296 : TI := ⟨.slice 155, 1, 24, .slice none 0 0⟩ -- []api.Range
theorem tok296 : TOK Tryz.prog 296 ti296 := TOK.mk' (by kernel_rfl) (by kernel_rfl)
def ti303 : TI := ⟨.struct [(0, 3, 1), (1, 3, 1), (2, 3, 1)], 3, 24, .agg #[.int .i64 0, .int .i64 0, .int .i64 0]⟩ -- api.Hide
theorem tok303 : TOK Tryz.prog 303 ti303 := TOK.mk' (by kernel_rfl) (by kernel_rfl)
def ti307 : TI := ⟨.func, 1, 8, .nilFunc⟩ -- func(api.Table, api.Merged) bool
theorem tok307 : TOK Tryz.prog 307 ti307 := TOK.mk' (by kernel_rfl) (by kernel_rfl)
def ti316 : TI := ⟨.int .u64, 1, 8, .int .u64 0⟩ -- slices.xorshift
theorem tok316 : TOK Tryz.prog 316 ti316 := TOK.mk' (by kernel_rfl) (by kernel_rfl)
def ti320 : TI := ⟨.ptr 3, 1, 8, .pointer none⟩ -- *int
theorem tok320 : TOK Tryz.prog 320 ti320 := TOK.mk' (by kernel_rfl) (by kernel_rfl)
def ti332 : TI := ⟨.func, 1, 8, .nilFunc⟩ -- func(api.Mark, api.Mark) int
theorem tok332 : TOK Tryz.prog 332 ti332 := TOK.mk' (by kernel_rfl) (by kernel_rfl)
def ti337 : TI := ⟨.func, 1, 8, .nilFunc⟩ -- func(api.Mark) bool
theorem tok337 : TOK Tryz.prog 337 ti337 := TOK.mk' (by kernel_rfl) (by kernel_rfl)
def ti343 : TI := ⟨.slice 347, 1, 24, .slice none 0 0⟩ -- []api.Token
theorem tok343 : TOK Tryz.prog 343 ti343 := TOK.mk' (by kernel_rfl) (by kernel_rfl)
def ti347 : TI := ⟨.struct [(0, 3, 1), (1, 3, 1), (2, 3, 1), (3, 3, 1)], 4, 32, .agg #[.int .i64 0, .int .i64 0, .int .i64 0, .int .i64 0]⟩ -- api.Token
theorem tok347 : TOK Tryz.prog 347 ti347 := TOK.mk' (by kernel_rfl) (by kernel_rfl)
def tyTab : List (Nat × TI) := [(3, ti3), (4, ti4), (5, ti5), (9, ti9), (22, ti22), (23, ti23), (24, ti24), (25, ti25), (26, ti26), (27, ti27), (28, ti28), (30, ti30), (31, ti31), (33, ti33), (35, ti35), (37, ti37), (40, ti40), (44, ti44), (48, ti48), (53, ti53), (58, ti58), (65, ti65), (71, ti71), (72, ti72), (73, ti73), (75, ti75), (80, ti80), (84, ti84), (86, ti86), (94, ti94), (102, ti102), (106, ti106), (121, ti121), (123, ti123), (125, ti125), (138, ti138), (145, ti145), (146, ti146), (147, ti147), (149, ti149), (151, ti151), (153, ti153), (155, ti155), (157, ti157), (160, ti160), (163, ti163), (165, ti165), (167, ti167), (169, ti169), (171, ti171), (175, ti175), (176, ti176), (177, ti177), (179, ti179), (181, ti181), (185, ti185), (196, ti196), (197, ti197), (208, ti208), (209, ti209), (211, ti211), (215, ti215), (218, ti218), (220, ti220), (221, ti221), (223, ti223), (225, ti225), (227, ti227), (228, ti228), (234, ti234), (236, ti236), (248, ti248), (250, ti250), (252, ti252), (255, ti255), (256, ti256), (258, ti258), (266, ti266), (268, ti268), (269, ti269), (274, ti274), (279, ti279), (287, ti287), (289, ti289), (296, ti296), (303, ti303), (307, ti307), (316, ti316), (320, ti320), (332, ti332), (337, ti337), (343, ti343), (347, ti347)]
theorem tyTab_ok : ∀ p ∈ tyTab, TOK Tryz.prog p.1 p.2 := by
 unfold tyTab
 repeat (first|exact List.forall_mem_nil _|refine List.forall_mem_cons.2 ⟨by first|exact tok3|exact tok4|exact tok5|exact tok9|exact tok22|exact tok23|exact tok24|exact tok25|exact tok26|exact tok27|exact tok28|exact tok30|exact tok31|exact tok33|exact tok35|exact tok37|exact tok40|exact tok44|exact tok48|exact tok53|exact tok58|exact tok65|exact tok71|exact tok72|exact tok73|exact tok75|exact tok80|exact tok84|exact tok86|exact tok94|exact tok102|exact tok106|exact tok121|exact tok123|exact tok125|exact tok138|exact tok145|exact tok146|exact tok147|exact tok149|exact tok151|exact tok153|exact tok155|exact tok157|exact tok160|exact tok163|exact tok165|exact tok167|exact tok169|exact tok171|exact tok175|exact tok176|exact tok177|exact tok179|exact tok181|exact tok185|exact tok196|exact tok197|exact tok208|exact tok209|exact tok211|exact tok215|exact tok218|exact tok220|exact tok221|exact tok223|exact tok225|exact tok227|exact tok228|exact tok234|exact tok236|exact tok248|exact tok250|exact tok252|exact tok255|exact tok256|exact tok258|exact tok266|exact tok268|exact tok269|exact tok274|exact tok279|exact tok287|exact tok289|exact tok296|exact tok303|exact tok307|exact tok316|exact tok320|exact tok332|exact tok337|exact tok343|exact tok347, ?_⟩)
def tt : Nat → Option TI := lookT tyTab
def en : Nat → Bool := fun f => Nat.ble 3 f && Nat.ble f 307 && !Nat.beq f 256 && !Nat.beq f 292
theorem pg : PgOK Tryz.prog tt en :=
 ⟨lookT_ok tyTab_ok, fun f h => entB_ok (by
  have k := List.all_eq_true.1 (show (List.range 308).all (fun f => !(Nat.ble 3 f && Nat.ble f 307 && !Nat.beq f 256 && !Nat.beq f 292) || entB Tryz.prog f) = true by kernel_rfl) f (List.mem_range.2 (by simp [en] at h;omega))
  have h2 : (Nat.ble 3 f && Nat.ble f 307 && !Nat.beq f 256 && !Nat.beq f 292) = true := h
  rw [h2] at k;simpa using k), by kernel_rfl⟩
abbrev ordZ : Nat → Ord × (Nat → Cls) := fun _ => (.done, clOf [])
abbrev ord9 := ordZ
def ord13 : Nat → Ord × (Nat → Cls) := fun id => bif Nat.beq id 9 then (.one 0 (.one 1 (.one 2 (.one 3 (.alt 4 (.one 5 (.one 6 (.one 7 (.one 8 (.one 9 (.one 10 (.one 12 (.alt 11 (.one 13 (.one 14 (.one 15 (.one 16 (.one 17 (.alt 18 (.one 19 (.one 20 (.one 21 (.one 22 .done)))) (.alt 19 (.one 18 (.one 20 (.one 21 (.one 22 .done)))) (.none)))))))) (.alt 13 (.one 11 (.one 14 (.one 15 (.one 16 (.one 17 (.alt 18 (.one 19 (.one 20 (.one 21 (.one 22 .done)))) (.alt 19 (.one 18 (.one 20 (.one 21 (.one 22 .done)))) (.none)))))))) (.none)))))))))) (.alt 6 (.one 4 (.one 5 (.one 7 (.one 8 (.one 9 (.one 10 (.one 12 (.alt 11 (.one 13 (.one 14 (.one 15 (.one 16 (.one 17 (.alt 18 (.one 19 (.one 20 (.one 21 (.one 22 .done)))) (.alt 19 (.one 18 (.one 20 (.one 21 (.one 22 .done)))) (.none)))))))) (.alt 13 (.one 11 (.one 14 (.one 15 (.one 16 (.one 17 (.alt 18 (.one 19 (.one 20 (.one 21 (.one 22 .done)))) (.alt 19 (.one 18 (.one 20 (.one 21 (.one 22 .done)))) (.none)))))))) (.none)))))))))) (.none)))))), clOf [.pure, .pure, .pure, .pure, .loud, .pure, .ext, .loud, .pure, .pure, .pure, .ext, .read, .ext, .loud, .pure, .pure, .pure, .loud, .ext, .loud, .pure, .pure]) else (.done, clOf [])
def ord14 : Nat → Ord × (Nat → Cls) := fun id => bif Nat.beq id 12 then (.one 0 (.one 1 (.one 2 (.one 3 (.one 4 (.one 5 (.one 6 (.one 7 (.one 8 .done)))))))), clOf [.read, .pure, .pure, .pure, .read, .pure, .read, .loud, .pure]) else bif Nat.beq id 21 then (.one 0 (.one 2 (.one 3 (.alt 1 (.one 4 (.one 5 (.one 6 (.one 7 .done)))) (.alt 6 (.one 1 (.one 4 (.one 5 (.one 7 .done)))) (.none))))), clOf [.read, .ext, .pure, .read, .pure, .read, .ext, .loud]) else (.done, clOf [])
def ord15 : Nat → Ord × (Nat → Cls) := fun id => bif Nat.beq id 3 then (.one 0 (.one 1 (.one 2 (.one 3 (.one 4 (.one 5 (.one 6 (.one 7 (.one 8 (.one 9 (.one 10 (.one 11 (.one 12 .done)))))))))))), clOf [.read, .pure, .pure, .pure, .read, .pure, .pure, .loud, .pure, .pure, .pure, .pure, .pure]) else (.done, clOf [])
abbrev ord16 := ordZ
abbrev ord17 := ordZ
def ord18 : Nat → Ord × (Nat → Cls) := fun id => bif Nat.beq id 5 then (.one 0 (.one 1 (.one 2 (.one 3 (.one 4 (.one 5 (.one 6 (.one 7 (.one 8 (.one 9 (.one 10 (.one 11 (.one 12 (.one 13 (.one 14 (.one 15 (.one 16 (.one 17 (.one 18 (.one 19 (.one 20 (.one 22 (.one 23 (.one 24 (.one 25 (.one 26 (.one 27 (.one 28 (.one 29 (.one 30 (.one 31 (.one 32 (.one 33 (.alt 21 (.one 34 (.one 35 (.one 36 .done))) (.alt 35 (.one 21 (.one 34 (.one 36 .done))) (.none))))))))))))))))))))))))))))))))))), clOf [.pure, .pure, .pure, .pure, .pure, .read, .pure, .pure, .read, .pure, .pure, .pure, .pure, .pure, .read, .pure, .pure, .pure, .pure, .pure, .read, .ext, .pure, .read, .pure, .read, .pure, .read, .pure, .read, .pure, .read, .pure, .read, .pure, .ext, .loud]) else bif Nat.beq id 6 then (.one 0 (.one 1 (.one 2 (.one 3 (.one 4 (.one 5 (.one 6 (.one 7 (.one 8 (.one 9 (.one 10 (.one 11 (.one 12 .done)))))))))))), clOf [.pure, .pure, .pure, .read, .pure, .pure, .pure, .pure, .read, .pure, .read, .loud, .pure]) else (.done, clOf [])
def ord19 : Nat → Ord × (Nat → Cls) := fun id => bif Nat.beq id 6 then (.one 0 (.one 1 (.one 2 (.one 3 (.one 4 (.one 5 (.one 6 (.one 7 (.one 8 .done)))))))), clOf [.pure, .pure, .pure, .read, .pure, .pure, .pure, .read, .pure]) else (.done, clOf [])
def ord20 : Nat → Ord × (Nat → Cls) := fun id => bif Nat.beq id 1 then (.one 0 (.one 1 (.one 2 (.one 3 (.one 4 (.one 5 (.one 6 (.one 7 (.one 8 (.one 9 (.one 10 (.one 11 (.one 12 (.one 13 (.one 14 (.one 15 (.one 16 (.one 17 (.one 18 (.one 19 (.one 20 (.one 21 (.one 22 (.one 23 (.one 24 (.one 25 (.one 26 (.one 27 (.one 28 (.one 29 (.one 30 (.one 31 (.one 32 (.one 33 (.one 34 (.one 35 (.one 36 .done)))))))))))))))))))))))))))))))))))), clOf [.pure, .read, .loud, .pure, .pure, .pure, .read, .pure, .read, .pure, .pure, .loud, .pure, .pure, .pure, .pure, .read, .pure, .read, .pure, .read, .pure, .read, .pure, .pure, .pure, .pure, .pure, .read, .pure, .pure, .pure, .pure, .read, .loud, .pure, .pure]) else bif Nat.beq id 3 then (.one 0 (.one 2 (.one 3 (.one 1 (.one 4 (.one 5 (.one 6 (.one 7 (.one 8 (.one 9 .done))))))))), clOf [.read, .ext, .pure, .read, .read, .pure, .pure, .pure, .pure, .pure]) else (.done, clOf [])
def ord21 : Nat → Ord × (Nat → Cls) := fun id => bif Nat.beq id 3 then (.one 0 (.one 1 (.one 2 (.one 3 (.one 4 (.one 5 (.one 6 (.one 7 (.one 8 .done)))))))), clOf [.pure, .pure, .pure, .pure, .read, .read, .ext, .loud, .pure]) else bif Nat.beq id 5 then (.one 0 (.one 1 (.one 2 (.one 3 (.one 4 (.one 5 (.one 6 (.one 7 (.one 8 (.one 9 (.one 10 .done)))))))))), clOf [.pure, .pure, .pure, .pure, .read, .pure, .read, .loud, .pure, .pure, .pure]) else bif Nat.beq id 7 then (.one 0 (.one 1 (.one 2 (.one 3 (.one 4 (.one 5 (.one 6 (.one 7 (.one 8 .done)))))))), clOf [.pure, .read, .pure, .pure, .pure, .read, .pure, .ext, .pure]) else bif Nat.beq id 16 then (.one 0 (.one 1 (.one 2 (.one 3 (.one 4 (.one 5 (.one 6 (.one 7 (.one 8 (.one 9 (.one 10 (.one 11 .done))))))))))), clOf [.pure, .pure, .pure, .pure, .read, .read, .ext, .ext, .loud, .pure, .pure, .loud]) else (.done, clOf [])
def ord23 : Nat → Ord × (Nat → Cls) := fun id => bif Nat.beq id 1 then (.one 0 (.one 1 (.one 2 (.one 3 (.one 4 (.one 5 (.one 6 (.one 7 (.one 8 (.one 9 (.one 10 (.one 11 (.one 12 (.one 13 (.one 14 (.one 15 (.one 16 (.one 17 (.one 18 (.one 19 (.one 20 (.one 21 (.one 22 (.one 23 (.one 24 (.one 25 (.one 26 (.one 27 (.one 28 (.one 29 .done))))))))))))))))))))))))))))), clOf [.pure, .loud, .pure, .pure, .read, .pure, .pure, .pure, .pure, .read, .pure, .pure, .pure, .pure, .pure, .pure, .read, .pure, .pure, .pure, .pure, .read, .pure, .pure, .read, .pure, .read, .pure, .pure, .pure]) else (.done, clOf [])
abbrev ord24 := ordZ
def ord26 : Nat → Ord × (Nat → Cls) := fun id => bif Nat.beq id 11 then (.one 0 (.one 1 (.one 2 (.one 3 (.one 4 (.one 5 (.one 6 (.one 7 (.one 8 (.one 9 (.one 10 (.one 11 (.one 12 (.one 13 (.one 14 (.one 15 (.one 16 (.one 17 (.one 18 (.one 19 (.one 20 (.one 21 (.one 22 (.one 23 (.one 24 (.one 25 (.one 26 (.one 27 (.one 28 (.one 29 (.one 30 (.one 31 (.one 32 (.one 33 (.one 34 (.one 35 (.one 36 (.one 37 (.one 38 (.one 39 (.one 40 (.one 41 (.one 42 .done)))))))))))))))))))))))))))))))))))))))))), clOf [.pure, .read, .pure, .pure, .pure, .read, .pure, .pure, .pure, .pure, .read, .pure, .pure, .pure, .read, .pure, .pure, .pure, .pure, .read, .pure, .pure, .pure, .read, .pure, .pure, .pure, .pure, .read, .pure, .pure, .pure, .pure, .read, .pure, .read, .pure, .pure, .pure, .pure, .read, .pure, .pure]) else bif Nat.beq id 13 then (.one 0 (.one 2 (.one 1 (.one 3 (.one 4 (.one 5 (.one 6 .done)))))), clOf [.read, .ext, .read, .loud, .pure, .pure, .pure]) else (.done, clOf [])
def ord27 : Nat → Ord × (Nat → Cls) := fun id => bif Nat.beq id 6 then (.one 0 (.one 1 (.one 2 (.one 3 (.one 4 (.one 5 (.one 6 (.one 7 (.one 8 (.one 9 .done))))))))), clOf [.pure, .read, .pure, .read, .pure, .pure, .read, .loud, .pure, .pure]) else (.done, clOf [])
abbrev ord32 := ordZ
abbrev ord35 := ordZ
def ord41 : Nat → Ord × (Nat → Cls) := fun id => bif Nat.beq id 6 then (.one 0 (.one 1 (.one 2 (.one 3 (.one 4 (.one 5 (.one 6 (.one 7 (.one 8 (.one 9 .done))))))))), clOf [.pure, .pure, .pure, .read, .pure, .pure, .pure, .read, .loud, .pure]) else (.done, clOf [])
abbrev ord44 := ordZ
abbrev ord52 := ordZ
def ord61 : Nat → Ord × (Nat → Cls) := fun id => bif Nat.beq id 6 then (.one 0 (.one 1 (.one 2 (.one 3 (.one 4 (.one 5 (.one 6 (.one 7 (.one 8 (.one 9 .done))))))))), clOf [.pure, .pure, .pure, .read, .pure, .pure, .pure, .read, .loud, .pure]) else (.done, clOf [])
def ord62 : Nat → Ord × (Nat → Cls) := fun id => bif Nat.beq id 1 then (.one 0 (.one 1 (.one 2 (.one 3 (.one 4 (.one 5 (.one 6 (.one 7 (.one 8 (.one 9 (.one 10 (.one 11 (.one 12 (.one 13 (.one 14 .done)))))))))))))), clOf [.pure, .pure, .pure, .read, .pure, .pure, .pure, .pure, .read, .loud, .pure, .pure, .pure, .pure, .pure]) else (.done, clOf [])
abbrev ord63 := ordZ
abbrev ord65 := ordZ
def ord66 : Nat → Ord × (Nat → Cls) := fun id => bif Nat.beq id 16 then (.one 0 (.one 1 (.one 2 (.one 3 (.one 4 (.one 5 (.one 6 (.one 7 (.one 8 (.one 9 (.one 10 (.one 11 (.one 12 .done)))))))))))), clOf [.pure, .pure, .pure, .pure, .read, .pure, .read, .pure, .pure, .pure, .read, .pure, .pure]) else bif Nat.beq id 19 then (.one 0 (.one 1 (.one 2 (.one 3 (.one 4 (.one 5 (.one 6 (.one 7 (.one 8 (.one 9 (.one 10 .done)))))))))), clOf [.pure, .read, .pure, .read, .pure, .read, .pure, .read, .pure, .pure, .loud]) else bif Nat.beq id 21 then (.one 0 (.one 1 (.one 2 (.one 3 (.one 4 (.one 5 (.one 6 (.one 7 (.one 8 (.one 9 (.one 10 (.one 11 (.one 12 .done)))))))))))), clOf [.pure, .pure, .pure, .read, .pure, .read, .read, .loud, .pure, .pure, .pure, .pure, .loud]) else bif Nat.beq id 30 then (.one 0 (.one 1 (.one 2 (.one 3 (.one 4 (.one 5 (.one 6 (.one 7 (.one 8 (.one 9 (.one 10 .done)))))))))), clOf [.pure, .pure, .pure, .read, .pure, .read, .loud, .pure, .pure, .pure, .pure]) else bif Nat.beq id 32 then (.one 0 (.one 1 (.one 2 (.one 3 (.one 4 (.one 5 (.one 6 (.one 7 (.one 8 (.one 9 (.one 10 (.one 11 (.one 12 (.one 13 (.one 14 (.one 15 (.one 16 .done)))))))))))))))), clOf [.pure, .pure, .pure, .read, .pure, .pure, .ext, .pure, .pure, .loud, .pure, .pure, .loud, .pure, .pure, .pure, .loud]) else (.done, clOf [])
def ord67 : Nat → Ord × (Nat → Cls) := fun id => bif Nat.beq id 9 then (.one 0 (.one 1 (.one 2 (.one 3 (.one 4 (.one 5 (.one 6 (.one 7 (.one 8 (.one 9 (.one 10 (.one 11 (.one 12 .done)))))))))))), clOf [.pure, .pure, .read, .pure, .pure, .read, .pure, .read, .pure, .read, .pure, .pure, .loud]) else (.done, clOf [])
def ord68 : Nat → Ord × (Nat → Cls) := fun id => bif Nat.beq id 18 then (.one 0 (.one 1 (.one 2 (.one 3 (.one 4 (.one 5 (.one 6 (.one 7 (.one 8 (.one 9 .done))))))))), clOf [.pure, .pure, .read, .pure, .read, .pure, .read, .pure, .pure, .loud]) else (.done, clOf [])
def ord69 : Nat → Ord × (Nat → Cls) := fun id => bif Nat.beq id 8 then (.one 0 (.one 2 (.one 3 (.one 1 (.one 4 (.one 5 .done))))), clOf [.read, .ext, .pure, .read, .read, .pure]) else (.done, clOf [])
def ord71 : Nat → Ord × (Nat → Cls) := fun id => bif Nat.beq id 6 then (.one 0 (.one 1 (.one 2 (.one 3 (.one 4 (.one 5 (.one 6 (.one 7 (.one 8 (.one 9 .done))))))))), clOf [.pure, .pure, .pure, .read, .pure, .pure, .pure, .pure, .read, .pure]) else bif Nat.beq id 11 then (.one 0 (.one 1 (.one 2 (.one 3 (.one 4 (.one 5 (.one 6 (.one 7 (.one 8 (.one 9 .done))))))))), clOf [.pure, .pure, .pure, .read, .pure, .pure, .pure, .pure, .read, .pure]) else (.done, clOf [])
def ord77 : Nat → Ord × (Nat → Cls) := fun id => bif Nat.beq id 3 then (.one 0 (.one 1 (.one 3 (.one 4 (.one 2 (.one 5 (.one 6 (.one 7 (.one 8 (.one 9 .done))))))))), clOf [.read, .pure, .ext, .pure, .read, .ext, .pure, .loud, .pure, .pure]) else (.done, clOf [])
abbrev ord78 := ordZ
def ord79 : Nat → Ord × (Nat → Cls) := fun id => bif Nat.beq id 8 then (.one 0 (.one 1 (.one 2 (.one 3 (.one 4 (.one 5 (.one 6 (.one 7 (.one 8 (.one 9 (.one 10 (.one 11 (.one 12 (.one 13 (.one 14 (.one 15 (.one 16 .done)))))))))))))))), clOf [.pure, .pure, .read, .loud, .pure, .pure, .pure, .pure, .read, .pure, .pure, .pure, .pure, .read, .pure, .pure, .pure]) else bif Nat.beq id 10 then (.one 0 (.one 1 (.one 3 (.one 2 (.one 4 .done)))), clOf [.pure, .read, .ext, .read, .loud]) else (.done, clOf [])
abbrev ord80 := ordZ
def ord81 : Nat → Ord × (Nat → Cls) := fun id => bif Nat.beq id 6 then (.one 0 (.one 1 (.one 2 (.one 3 (.one 4 (.one 5 (.one 6 (.one 7 (.one 8 (.one 9 (.one 10 (.one 11 (.one 12 (.one 13 (.one 14 (.one 15 (.one 16 (.one 17 (.one 18 .done)))))))))))))))))), clOf [.pure, .read, .pure, .read, .pure, .pure, .read, .loud, .pure, .pure, .pure, .read, .pure, .pure, .pure, .read, .loud, .pure, .pure]) else (.done, clOf [])
def ord82 : Nat → Ord × (Nat → Cls) := fun id => bif Nat.beq id 12 then (.one 0 (.one 1 (.one 2 (.one 3 (.one 4 (.one 5 (.one 6 (.one 7 (.one 8 (.one 9 (.one 10 (.one 11 (.one 12 (.one 13 .done))))))))))))), clOf [.pure, .pure, .pure, .pure, .pure, .read, .pure, .pure, .pure, .read, .loud, .pure, .pure, .pure]) else bif Nat.beq id 22 then (.one 1 (.one 2 (.one 3 (.one 5 (.one 6 (.one 7 (.one 8 (.one 0 (.one 4 (.one 9 (.one 10 .done)))))))))), clOf [.ext, .pure, .pure, .pure, .loud, .pure, .pure, .pure, .pure, .loud, .pure]) else (.done, clOf [])
abbrev ord83 := ordZ
abbrev ord84 := ordZ
abbrev ord85 := ordZ
abbrev ord86 := ordZ
def ord87 : Nat → Ord × (Nat → Cls) := fun id => bif Nat.beq id 1 then (.one 0 (.one 1 (.one 2 (.one 3 (.one 4 (.one 5 (.one 6 (.one 7 (.one 8 (.one 9 (.one 10 (.one 11 (.one 12 .done)))))))))))), clOf [.pure, .pure, .pure, .read, .pure, .pure, .pure, .pure, .read, .pure, .read, .loud, .pure]) else (.done, clOf [])
abbrev ord88 := ordZ
def ord89 : Nat → Ord × (Nat → Cls) := fun id => bif Nat.beq id 7 then (.one 0 (.one 1 (.one 2 (.one 3 (.one 4 (.one 5 (.one 6 (.one 7 (.one 8 .done)))))))), clOf [.pure, .pure, .pure, .read, .pure, .pure, .pure, .read, .pure]) else bif Nat.beq id 8 then (.one 0 (.one 1 (.one 2 (.one 3 (.one 4 (.one 5 (.one 6 (.one 7 (.one 8 (.one 9 (.one 10 (.one 11 (.one 12 (.one 13 (.one 14 .done)))))))))))))), clOf [.pure, .pure, .pure, .pure, .pure, .read, .pure, .pure, .pure, .pure, .read, .pure, .ext, .loud, .pure]) else (.done, clOf [])
def ord90 : Nat → Ord × (Nat → Cls) := fun id => bif Nat.beq id 2 then (.one 0 (.one 1 (.one 2 (.one 3 (.one 4 (.one 5 (.one 6 (.one 7 (.one 8 (.one 9 (.one 10 (.one 11 (.one 12 (.one 13 (.one 14 (.one 15 (.one 16 (.one 17 (.one 18 (.one 19 (.one 20 (.one 21 (.one 22 (.one 23 (.one 24 (.one 25 (.one 26 (.one 27 (.one 28 (.one 29 .done))))))))))))))))))))))))))))), clOf [.pure, .pure, .pure, .pure, .read, .pure, .pure, .pure, .pure, .read, .pure, .pure, .pure, .pure, .read, .pure, .pure, .pure, .pure, .read, .pure, .read, .pure, .pure, .pure, .pure, .read, .pure, .pure, .loud]) else (.done, clOf [])
def ord91 : Nat → Ord × (Nat → Cls) := fun id => bif Nat.beq id 4 then (.one 0 (.one 1 (.one 2 (.one 3 (.one 4 (.one 5 (.one 6 (.one 7 (.one 8 (.one 9 (.one 10 (.one 11 (.one 12 (.one 13 (.one 14 (.one 15 (.one 16 (.one 17 .done))))))))))))))))), clOf [.pure, .pure, .pure, .pure, .read, .read, .ext, .loud, .pure, .pure, .read, .pure, .pure, .pure, .pure, .read, .pure, .pure]) else bif Nat.beq id 7 then (.one 0 (.one 1 (.one 2 (.one 3 (.one 4 (.one 5 (.one 6 (.one 7 (.one 8 (.one 9 (.one 10 (.one 11 (.one 12 (.one 13 (.one 14 (.one 15 .done))))))))))))))), clOf [.pure, .pure, .pure, .pure, .pure, .read, .pure, .pure, .pure, .pure, .read, .pure, .pure, .pure, .pure, .loud]) else (.done, clOf [])
def ord92 : Nat → Ord × (Nat → Cls) := fun id => bif Nat.beq id 4 then (.one 0 (.one 1 (.one 2 (.one 3 (.one 4 (.one 5 (.one 6 (.one 7 (.one 8 (.one 9 (.one 10 (.one 11 (.one 12 (.one 13 (.one 14 (.one 15 (.one 16 (.one 17 (.one 18 .done)))))))))))))))))), clOf [.pure, .pure, .pure, .read, .pure, .pure, .pure, .read, .pure, .pure, .pure, .pure, .read, .pure, .pure, .pure, .read, .pure, .pure]) else bif Nat.beq id 7 then (.one 0 (.one 1 (.one 2 (.one 3 (.one 4 (.one 5 (.one 6 (.one 7 (.one 8 (.one 9 (.one 10 (.one 11 (.one 12 (.one 13 .done))))))))))))), clOf [.pure, .pure, .pure, .pure, .read, .pure, .read, .pure, .read, .pure, .read, .pure, .pure, .loud]) else (.done, clOf [])
def ord93 : Nat → Ord × (Nat → Cls) := fun id => bif Nat.beq id 1 then (.one 0 (.one 1 (.one 2 (.one 3 (.one 4 (.one 5 (.one 6 (.one 7 (.one 8 (.one 9 (.one 10 (.one 11 (.one 12 (.one 13 (.one 14 (.one 15 (.one 16 (.one 17 (.one 18 (.one 19 (.one 20 (.one 21 .done))))))))))))))))))))), clOf [.pure, .pure, .pure, .read, .pure, .pure, .read, .pure, .pure, .pure, .pure, .read, .pure, .pure, .pure, .read, .loud, .pure, .pure, .pure, .pure, .pure]) else (.done, clOf [])
def ord94 : Nat → Ord × (Nat → Cls) := fun id => bif Nat.beq id 2 then (.one 0 (.one 1 (.one 2 (.one 3 (.one 4 (.one 5 (.one 6 (.one 7 (.one 8 (.one 9 (.one 10 (.one 11 (.one 12 (.one 13 (.one 14 (.one 15 .done))))))))))))))), clOf [.pure, .pure, .pure, .pure, .pure, .read, .pure, .pure, .pure, .pure, .read, .loud, .pure, .pure, .pure, .loud]) else (.done, clOf [])
abbrev ord95 := ordZ
def ord96 : Nat → Ord × (Nat → Cls) := fun id => bif Nat.beq id 1 then (.one 0 (.one 1 (.one 2 (.one 3 (.one 4 (.one 5 .done))))), clOf [.pure, .read, .read, .ext, .loud, .pure]) else (.done, clOf [])
abbrev ord98 := ordZ
abbrev ord99 := ordZ
def ord100 : Nat → Ord × (Nat → Cls) := fun id => bif Nat.beq id 5 then (.one 0 (.one 1 (.one 2 (.one 3 (.one 4 (.one 5 (.one 6 (.one 7 (.one 8 (.one 9 (.one 10 (.one 11 (.one 12 (.one 13 (.one 14 (.one 15 (.one 16 .done)))))))))))))))), clOf [.pure, .read, .pure, .pure, .read, .pure, .pure, .pure, .read, .pure, .pure, .read, .pure, .read, .pure, .pure, .pure]) else bif Nat.beq id 7 then (.one 0 (.one 1 (.one 2 (.one 3 (.one 4 (.one 5 (.one 6 (.one 7 (.one 8 (.one 9 (.one 10 (.one 11 .done))))))))))), clOf [.pure, .pure, .read, .pure, .read, .pure, .pure, .read, .pure, .read, .pure, .pure]) else (.done, clOf [])
abbrev ord105 := ordZ
def ord106 : Nat → Ord × (Nat → Cls) := fun id => bif Nat.beq id 1 then (.one 0 (.one 1 (.one 3 (.one 4 (.one 5 (.one 6 (.one 8 (.one 9 (.one 11 (.one 12 (.one 2 (.one 7 (.one 10 (.one 13 (.one 14 (.one 15 .done))))))))))))))), clOf [.pure, .read, .ext, .pure, .read, .pure, .read, .ext, .pure, .read, .ext, .pure, .read, .ext, .pure, .loud]) else (.done, clOf [])
abbrev ord113 := ordZ
abbrev ord115 := ordZ
abbrev ord120 := ordZ
def ord122 : Nat → Ord × (Nat → Cls) := fun id => bif Nat.beq id 1 then (.one 0 (.one 1 (.one 2 (.one 3 (.one 4 (.one 5 (.one 6 (.one 7 (.one 8 (.one 9 (.one 10 (.one 11 (.one 12 (.one 13 (.one 14 (.one 15 (.one 16 (.one 17 (.one 18 (.one 19 (.one 20 (.one 21 (.one 22 (.one 23 (.one 24 (.one 25 (.one 26 (.one 27 (.one 28 (.one 29 .done))))))))))))))))))))))))))))), clOf [.pure, .loud, .pure, .pure, .read, .pure, .pure, .pure, .pure, .read, .pure, .pure, .pure, .pure, .pure, .pure, .read, .pure, .pure, .pure, .pure, .read, .pure, .pure, .read, .pure, .read, .pure, .pure, .pure]) else (.done, clOf [])
def ord123 : Nat → Ord × (Nat → Cls) := fun id => bif Nat.beq id 1 then (.one 0 (.one 1 (.one 2 (.one 3 (.one 4 (.one 5 (.one 6 (.one 7 (.one 8 (.one 9 (.one 10 (.one 11 (.one 12 (.one 13 .done))))))))))))), clOf [.read, .loud, .pure, .read, .loud, .pure, .pure, .pure, .read, .read, .ext, .loud, .pure, .pure]) else (.done, clOf [])
abbrev ord125 := ordZ
abbrev ord126 := ordZ
def ord129 : Nat → Ord × (Nat → Cls) := fun id => bif Nat.beq id 6 then (.one 0 (.one 1 (.one 2 (.one 3 (.one 4 (.one 5 (.one 6 (.one 7 (.one 8 .done)))))))), clOf [.pure, .pure, .pure, .read, .pure, .pure, .pure, .read, .pure]) else (.done, clOf [])
def ord130 : Nat → Ord × (Nat → Cls) := fun id => bif Nat.beq id 7 then (.one 0 (.one 1 (.one 2 (.one 3 (.one 4 (.one 5 (.one 6 (.one 7 (.one 8 (.one 9 .done))))))))), clOf [.pure, .read, .pure, .pure, .pure, .read, .loud, .ext, .loud, .pure]) else (.done, clOf [])
def ord131 : Nat → Ord × (Nat → Cls) := fun id => bif Nat.beq id 19 then (.one 0 (.one 1 (.one 2 (.one 3 (.one 4 (.one 5 (.one 6 (.one 7 (.one 8 (.one 9 (.one 10 (.one 11 (.one 12 (.one 13 .done))))))))))))), clOf [.pure, .pure, .pure, .read, .pure, .read, .pure, .read, .pure, .read, .pure, .pure, .ext, .loud]) else (.done, clOf [])
abbrev ord132 := ordZ
abbrev ord133 := ordZ
abbrev ord134 := ordZ
abbrev ord135 := ordZ
abbrev ord136 := ordZ
abbrev ord137 := ordZ
abbrev ord138 := ordZ
abbrev ord142 := ordZ
abbrev ord145 := ordZ
abbrev ord146 := ordZ
def ord147 : Nat → Ord × (Nat → Cls) := fun id => bif Nat.beq id 1 then (.one 0 (.one 1 (.one 2 (.one 3 (.one 4 (.one 5 (.one 6 (.one 7 (.one 8 (.one 9 (.one 10 (.one 11 (.one 12 (.one 13 (.one 14 (.one 15 (.one 16 (.one 17 (.one 18 (.one 19 (.one 20 (.one 21 (.one 22 (.one 23 (.one 24 (.one 25 (.one 26 (.one 27 (.one 28 (.one 29 (.one 30 (.one 31 (.one 32 (.one 33 (.one 34 (.one 35 (.one 36 (.one 37 (.one 38 (.one 39 (.one 40 (.one 41 (.one 42 (.one 43 .done))))))))))))))))))))))))))))))))))))))))))), clOf [.pure, .read, .loud, .pure, .pure, .pure, .read, .pure, .pure, .pure, .pure, .read, .pure, .read, .pure, .pure, .pure, .pure, .pure, .read, .pure, .read, .pure, .read, .pure, .read, .pure, .pure, .pure, .pure, .pure, .read, .pure, .pure, .pure, .pure, .read, .pure, .pure, .pure, .pure, .read, .pure, .pure]) else (.done, clOf [])
abbrev ord148 := ordZ
abbrev ord149 := ordZ
abbrev ord150 := ordZ
abbrev ord151 := ordZ
def ord152 : Nat → Ord × (Nat → Cls) := fun id => bif Nat.beq id 6 then (.one 0 (.one 1 (.one 2 (.one 3 (.one 4 (.one 5 (.one 6 (.one 7 (.one 8 (.one 9 (.one 10 (.one 11 (.one 12 (.one 13 .done))))))))))))), clOf [.pure, .pure, .pure, .pure, .pure, .pure, .read, .pure, .pure, .pure, .pure, .read, .loud, .pure]) else bif Nat.beq id 9 then (.one 0 (.one 1 (.one 2 (.one 3 (.one 4 (.one 5 (.one 6 (.one 9 (.one 7 (.one 8 (.one 10 (.one 11 .done))))))))))), clOf [.pure, .pure, .pure, .pure, .pure, .pure, .read, .ext, .loud, .pure, .loud, .pure]) else (.done, clOf [])
abbrev ord153 := ordZ
abbrev ord154 := ordZ
abbrev ord155 := ordZ
abbrev ord156 := ordZ
def ord157 : Nat → Ord × (Nat → Cls) := fun id => bif Nat.beq id 11 then (.one 0 (.one 1 (.one 2 (.one 3 (.one 4 (.one 5 (.one 6 (.one 7 .done))))))), clOf [.pure, .pure, .pure, .pure, .read, .pure, .read, .pure]) else (.done, clOf [])
def ord158 : Nat → Ord × (Nat → Cls) := fun id => bif Nat.beq id 4 then (.one 0 (.one 1 (.one 2 (.one 3 (.one 4 (.one 5 (.one 6 (.one 7 (.one 8 (.one 9 (.one 10 (.one 11 (.one 12 (.one 13 (.one 14 (.one 15 .done))))))))))))))), clOf [.pure, .pure, .pure, .read, .loud, .pure, .pure, .pure, .pure, .pure, .pure, .pure, .pure, .read, .loud, .pure]) else (.done, clOf [])
def ord159 : Nat → Ord × (Nat → Cls) := fun id => bif Nat.beq id 9 then (.one 0 (.one 1 (.one 2 (.one 3 (.one 4 (.one 5 (.one 6 (.one 7 (.one 8 (.one 9 (.one 10 (.one 11 (.one 12 (.one 13 (.one 14 (.one 15 (.one 16 (.one 17 (.one 18 (.one 19 (.one 20 (.one 21 (.one 22 .done)))))))))))))))))))))), clOf [.pure, .read, .pure, .pure, .pure, .pure, .read, .read, .loud, .pure, .pure, .pure, .read, .pure, .pure, .pure, .pure, .pure, .read, .read, .loud, .pure, .pure]) else (.done, clOf [])
def ord160 : Nat → Ord × (Nat → Cls) := fun id => bif Nat.beq id 10 then (.one 0 (.one 1 (.one 2 (.one 3 (.one 4 (.one 5 (.one 6 (.one 7 (.one 8 (.one 9 (.one 10 (.one 11 (.one 12 (.one 13 (.one 14 (.one 15 (.one 16 .done)))))))))))))))), clOf [.pure, .read, .pure, .pure, .read, .pure, .pure, .pure, .read, .pure, .pure, .read, .pure, .read, .pure, .pure, .pure]) else bif Nat.beq id 20 then (.one 0 (.one 1 (.one 2 (.one 3 (.one 4 (.one 5 (.one 6 (.one 7 (.one 8 (.one 9 (.one 10 (.one 11 (.one 12 (.one 13 (.one 14 (.one 15 (.one 16 (.one 17 (.one 18 (.one 19 (.one 20 (.one 21 (.one 22 (.one 23 (.one 24 .done)))))))))))))))))))))))), clOf [.pure, .read, .pure, .pure, .pure, .read, .pure, .read, .pure, .pure, .pure, .pure, .pure, .read, .pure, .pure, .read, .pure, .read, .pure, .pure, .read, .pure, .pure, .pure]) else bif Nat.beq id 26 then (.one 0 (.one 1 (.one 2 (.one 3 (.one 4 (.one 5 (.one 6 (.one 7 (.one 8 (.one 9 (.one 10 (.one 11 (.one 12 (.one 13 (.one 14 (.one 15 (.one 16 (.one 17 (.one 18 (.one 19 (.one 20 (.one 21 (.one 22 (.one 23 (.one 24 (.one 25 (.one 26 (.one 27 (.one 28 (.one 29 (.one 30 (.one 31 (.one 32 (.one 33 (.one 34 (.one 35 .done))))))))))))))))))))))))))))))))))), clOf [.pure, .pure, .pure, .pure, .read, .pure, .pure, .read, .loud, .pure, .pure, .pure, .pure, .pure, .pure, .pure, .read, .pure, .pure, .read, .pure, .pure, .pure, .read, .pure, .pure, .read, .pure, .read, .pure, .pure, .read, .pure, .pure, .pure, .pure]) else (.done, clOf [])
def ord161 : Nat → Ord × (Nat → Cls) := fun id => bif Nat.beq id 9 then (.one 0 (.one 1 (.one 2 (.one 3 (.one 4 (.one 5 (.one 6 (.one 7 (.one 8 (.one 9 (.one 10 (.one 11 (.alt 12 (.one 13 (.one 14 (.one 15 .done))) (.alt 13 (.one 12 (.one 14 (.one 15 .done))) (.none)))))))))))))), clOf [.pure, .read, .pure, .read, .pure, .read, .pure, .read, .pure, .read, .pure, .read, .ext, .ext, .ext, .ext, .ext]) else bif Nat.beq id 10 then (.one 0 (.one 1 (.one 2 (.one 3 (.one 4 (.one 5 (.one 6 (.one 7 (.one 8 (.one 9 (.one 10 (.one 11 (.one 12 (.one 13 (.one 14 (.one 15 (.one 16 (.one 17 (.one 18 (.one 19 (.one 20 (.one 21 (.one 22 (.one 23 (.one 24 (.one 25 (.one 26 (.one 27 (.one 28 (.one 29 (.one 30 (.one 31 (.one 32 (.one 33 (.one 34 (.one 35 (.one 36 (.one 37 (.one 38 (.one 39 .done))))))))))))))))))))))))))))))))))))))), clOf [.pure, .read, .pure, .pure, .pure, .read, .pure, .pure, .pure, .pure, .read, .pure, .pure, .pure, .pure, .read, .pure, .read, .pure, .pure, .pure, .pure, .pure, .read, .pure, .pure, .pure, .pure, .pure, .read, .pure, .read, .pure, .read, .pure, .read, .pure, .read, .pure, .pure]) else bif Nat.beq id 15 then (.one 0 (.one 1 (.one 2 (.one 3 (.one 4 (.one 5 (.one 6 (.one 7 (.one 8 (.one 9 (.one 10 (.one 11 (.one 12 (.one 13 (.one 14 (.one 15 (.one 16 .done)))))))))))))))), clOf [.read, .pure, .read, .pure, .pure, .pure, .read, .pure, .read, .pure, .pure, .pure, .read, .pure, .read, .pure, .loud]) else (.done, clOf [])
abbrev ord176 := ordZ
abbrev ord185 := ordZ
abbrev ord186 := ordZ
abbrev ord187 := ordZ
abbrev ord189 := ordZ
abbrev ord190 := ordZ
def ord191 : Nat → Ord × (Nat → Cls) := fun id => bif Nat.beq id 11 then (.one 0 (.one 1 (.one 2 (.one 3 (.one 4 (.one 5 (.one 6 (.one 7 (.one 8 .done)))))))), clOf [.pure, .pure, .pure, .pure, .pure, .pure, .pure, .pure, .loud]) else bif Nat.beq id 15 then (.one 0 (.one 1 (.one 2 (.one 3 (.one 4 (.one 5 (.one 6 (.one 7 (.one 8 .done)))))))), clOf [.pure, .pure, .pure, .pure, .pure, .pure, .pure, .pure, .loud]) else (.done, clOf [])
abbrev ord192 := ordZ
abbrev ord193 := ordZ
abbrev ord194 := ordZ
abbrev ord195 := ordZ
abbrev ord196 := ordZ
abbrev ord197 := ordZ
abbrev ord198 := ordZ
abbrev ord199 := ordZ
abbrev ord200 := ordZ
abbrev ord201 := ordZ
abbrev ord202 := ordZ
abbrev ord203 := ordZ
abbrev ord204 := ordZ
abbrev ord205 := ordZ
abbrev ord206 := ordZ
abbrev ord207 := ordZ
def ord208 : Nat → Ord × (Nat → Cls) := fun id => bif Nat.beq id 7 then (.one 0 (.one 1 (.one 2 (.one 3 (.one 4 (.one 5 (.one 6 (.one 7 .done))))))), clOf [.pure, .pure, .pure, .pure, .read, .read, .loud, .pure]) else (.done, clOf [])
def ord209 : Nat → Ord × (Nat → Cls) := fun id => bif Nat.beq id 1 then (.one 0 (.one 1 (.one 2 (.one 3 (.one 4 (.one 5 (.one 7 (.one 8 (.one 9 (.one 10 (.one 11 (.one 12 (.one 6 (.one 13 (.one 14 (.one 15 (.one 16 .done)))))))))))))))), clOf [.pure, .pure, .read, .pure, .pure, .read, .ext, .pure, .pure, .read, .pure, .pure, .read, .loud, .ext, .loud, .pure]) else (.done, clOf [])
abbrev ord210 := ordZ
abbrev ord211 := ordZ
abbrev ord218 := ordZ
abbrev ord224 := ordZ
abbrev ord225 := ordZ
abbrev ord226 := ordZ
abbrev ord227 := ordZ
abbrev ord228 := ordZ
abbrev ord229 := ordZ
abbrev ord230 := ordZ
abbrev ord231 := ordZ
abbrev ord232 := ordZ
abbrev ord233 := ordZ
abbrev ord234 := ordZ
abbrev ord235 := ordZ
def ord236 : Nat → Ord × (Nat → Cls) := fun id => bif Nat.beq id 5 then (.one 0 (.one 1 (.one 2 (.one 3 (.one 4 (.one 5 (.one 6 (.one 7 (.one 8 (.one 9 (.one 10 (.one 11 (.one 12 (.one 13 (.one 14 (.one 15 (.one 16 (.one 17 (.one 18 (.one 19 (.one 20 (.one 21 (.one 22 (.one 23 (.one 24 (.one 25 (.one 26 (.one 27 (.one 28 (.one 29 (.one 30 (.one 31 (.one 32 (.one 33 (.one 34 (.one 35 .done))))))))))))))))))))))))))))))))))), clOf [.pure, .read, .pure, .pure, .pure, .read, .pure, .pure, .pure, .pure, .pure, .pure, .pure, .pure, .read, .pure, .pure, .pure, .pure, .read, .pure, .read, .pure, .pure, .pure, .pure, .pure, .read, .pure, .pure, .pure, .pure, .read, .loud, .pure, .pure]) else (.done, clOf [])
def ord237 : Nat → Ord × (Nat → Cls) := fun id => bif Nat.beq id 7 then (.one 0 (.one 1 (.one 2 (.one 3 (.one 4 (.one 5 (.one 6 (.one 7 (.one 8 (.one 9 (.one 10 (.one 11 (.one 12 (.one 13 (.one 14 (.one 15 (.one 16 (.one 17 (.one 18 (.one 19 (.one 20 (.one 21 (.one 22 (.one 23 (.one 24 (.one 25 (.one 26 (.one 27 (.one 28 (.one 29 (.one 30 (.one 31 (.one 32 (.one 33 (.one 34 (.one 35 (.one 36 (.one 37 (.one 38 (.one 39 .done))))))))))))))))))))))))))))))))))))))), clOf [.pure, .read, .pure, .pure, .pure, .read, .pure, .pure, .pure, .pure, .pure, .read, .pure, .read, .pure, .read, .pure, .read, .pure, .pure, .pure, .pure, .read, .pure, .read, .pure, .pure, .pure, .pure, .read, .pure, .read, .pure, .read, .pure, .read, .pure, .read, .pure, .pure]) else (.done, clOf [])
abbrev ord238 := ordZ
def ord239 : Nat → Ord × (Nat → Cls) := fun id => bif Nat.beq id 4 then (.one 0 (.one 1 (.one 2 (.one 3 (.one 4 (.one 5 (.one 6 (.one 7 (.one 8 .done)))))))), clOf [.pure, .pure, .pure, .read, .pure, .pure, .pure, .read, .pure]) else bif Nat.beq id 5 then (.one 0 (.one 1 (.one 2 (.one 3 (.one 4 (.one 5 (.one 6 (.one 7 (.one 8 (.one 9 .done))))))))), clOf [.pure, .pure, .pure, .read, .pure, .pure, .pure, .read, .pure, .pure]) else (.done, clOf [])
def ord240 : Nat → Ord × (Nat → Cls) := fun id => bif Nat.beq id 6 then (.one 0 (.one 1 (.one 2 (.one 3 (.one 4 (.one 5 (.one 6 (.one 7 (.one 8 (.one 9 (.one 10 (.one 11 (.one 12 (.one 13 (.one 14 (.one 15 (.one 16 (.one 17 (.one 18 (.one 19 (.one 20 (.one 21 (.one 22 (.one 23 (.one 24 (.one 25 (.one 26 (.one 27 (.one 28 (.one 29 (.one 30 (.one 31 (.one 32 (.one 33 (.one 34 (.one 35 .done))))))))))))))))))))))))))))))))))), clOf [.pure, .read, .pure, .pure, .pure, .read, .pure, .pure, .pure, .pure, .pure, .pure, .pure, .pure, .read, .pure, .pure, .pure, .pure, .read, .pure, .read, .pure, .pure, .pure, .pure, .pure, .read, .pure, .pure, .pure, .pure, .read, .loud, .pure, .pure]) else bif Nat.beq id 18 then (.one 0 (.one 1 (.one 2 (.one 3 (.one 4 (.one 5 (.one 6 (.one 7 (.one 8 (.one 9 (.one 10 (.one 11 (.one 12 (.one 13 (.one 14 (.one 15 (.one 16 (.one 17 .done))))))))))))))))), clOf [.pure, .pure, .pure, .pure, .pure, .pure, .pure, .read, .pure, .pure, .pure, .pure, .read, .pure, .read, .pure, .pure, .pure]) else (.done, clOf [])
def ord241 : Nat → Ord × (Nat → Cls) := fun id => bif Nat.beq id 6 then (.one 0 (.one 1 (.one 2 (.one 3 (.one 4 (.one 5 (.one 6 (.one 7 (.one 8 (.one 9 (.one 10 (.one 11 (.one 12 (.one 13 (.one 14 (.one 15 (.one 16 (.one 17 (.one 18 (.one 19 (.one 20 .done)))))))))))))))))))), clOf [.pure, .read, .pure, .pure, .pure, .read, .pure, .pure, .pure, .read, .pure, .read, .pure, .pure, .pure, .read, .pure, .pure, .pure, .loud, .pure]) else (.done, clOf [])
abbrev ord243 := ordZ
def ord244 : Nat → Ord × (Nat → Cls) := fun id => bif Nat.beq id 7 then (.one 0 (.one 1 (.one 2 (.one 3 (.one 4 (.one 5 (.one 6 (.one 7 (.one 8 (.one 9 (.one 10 (.one 11 (.one 12 (.one 13 (.one 14 (.one 15 (.one 16 (.one 17 (.one 18 (.one 19 (.one 20 (.one 21 (.one 22 (.one 23 (.one 24 .done)))))))))))))))))))))))), clOf [.read, .read, .loud, .pure, .pure, .pure, .read, .loud, .read, .pure, .pure, .pure, .pure, .pure, .pure, .read, .pure, .pure, .pure, .read, .read, .loud, .pure, .pure, .pure]) else (.done, clOf [])
abbrev ord249 := ordZ
def ord250 : Nat → Ord × (Nat → Cls) := fun id => bif Nat.beq id 5 then (.one 0 (.one 1 (.one 2 (.one 3 (.one 4 (.one 5 (.one 6 (.one 7 (.one 8 (.one 9 (.one 10 (.one 11 (.one 12 .done)))))))))))), clOf [.pure, .read, .pure, .pure, .read, .pure, .read, .loud, .pure, .pure, .pure, .pure, .pure]) else bif Nat.beq id 6 then (.one 0 (.one 2 (.one 3 (.one 4 (.one 5 (.one 6 (.one 7 (.one 8 (.one 9 (.alt 1 (.one 10 (.one 11 (.one 12 (.one 13 (.one 14 .done))))) (.alt 10 (.alt 1 (.one 11 (.one 12 (.one 13 (.one 14 .done)))) (.alt 11 (.one 1 (.one 12 (.one 13 (.one 14 .done)))) (.none))) (.none))))))))))), clOf [.pure, .ext, .pure, .read, .pure, .pure, .read, .pure, .pure, .read, .ext, .loud, .pure, .pure, .loud]) else (.done, clOf [])
abbrev ord251 := ordZ
def ord252 : Nat → Ord × (Nat → Cls) := fun id => bif Nat.beq id 1 then (.one 0 (.one 2 (.alt 1 (.one 4 (.one 5 (.alt 3 (.one 6 (.one 7 (.one 8 (.one 9 .done)))) (.alt 6 (.one 3 (.one 7 (.one 8 (.one 9 .done)))) (.none))))) (.alt 3 (.one 1 (.one 4 (.one 5 (.one 6 (.one 7 (.one 8 (.one 9 .done))))))) (.none)))), clOf [.pure, .loud, .pure, .loud, .pure, .pure, .loud, .pure, .pure, .loud]) else (.done, clOf [])
def ord253 : Nat → Ord × (Nat → Cls) := fun id => bif Nat.beq id 4 then (.one 0 (.one 1 (.one 2 (.one 3 (.one 4 (.one 6 (.one 7 (.one 8 (.one 9 (.one 10 (.one 5 (.one 11 (.one 12 (.one 13 (.one 14 .done)))))))))))))), clOf [.pure, .read, .pure, .pure, .read, .ext, .pure, .read, .pure, .pure, .read, .loud, .ext, .loud, .pure]) else bif Nat.beq id 5 then (.one 0 (.one 1 (.one 2 (.one 3 (.one 4 (.one 5 (.one 6 (.one 7 (.one 8 .done)))))))), clOf [.pure, .read, .pure, .pure, .read, .pure, .read, .pure, .loud]) else (.done, clOf [])
abbrev ord254 := ordZ
abbrev ord255 := ordZ
abbrev ord258 := ordZ
abbrev ord259 := ordZ
abbrev ord268 := ordZ
def ord269 : Nat → Ord × (Nat → Cls) := fun id => bif Nat.beq id 4 then (.one 0 (.one 1 (.one 2 (.one 3 (.one 4 (.one 5 (.one 6 (.one 7 (.one 8 .done)))))))), clOf [.pure, .pure, .pure, .read, .pure, .pure, .pure, .read, .pure]) else (.done, clOf [])
abbrev ord270 := ordZ
abbrev ord271 := ordZ
def ord272 : Nat → Ord × (Nat → Cls) := fun id => bif Nat.beq id 6 then (.one 0 (.one 1 (.one 2 (.one 3 (.one 4 (.one 5 (.one 6 (.one 7 (.one 8 .done)))))))), clOf [.pure, .pure, .pure, .read, .pure, .pure, .pure, .read, .pure]) else (.done, clOf [])
abbrev ord273 := ordZ
abbrev ord274 := ordZ
def ord275 : Nat → Ord × (Nat → Cls) := fun id => bif Nat.beq id 3 then (.one 0 (.one 1 (.one 2 (.one 3 (.one 4 (.one 5 (.one 6 (.one 7 .done))))))), clOf [.pure, .pure, .read, .pure, .pure, .read, .pure, .pure]) else (.done, clOf [])
abbrev ord276 := ordZ
def ord277 : Nat → Ord × (Nat → Cls) := fun id => bif Nat.beq id 1 then (.one 0 (.one 1 (.one 2 (.one 3 (.one 5 (.one 6 (.one 7 (.one 8 (.one 10 (.one 11 (.one 12 (.one 13 (.one 4 (.one 9 (.one 14 (.one 15 (.one 16 (.one 17 .done))))))))))))))))), clOf [.pure, .read, .pure, .read, .ext, .pure, .read, .pure, .read, .ext, .pure, .read, .pure, .read, .loud, .ext, .loud, .pure]) else (.done, clOf [])
abbrev ord281 := ordZ
def ord282 : Nat → Ord × (Nat → Cls) := fun id => bif Nat.beq id 1 then (.one 0 (.one 2 (.one 3 (.one 1 (.one 4 (.one 5 (.one 6 .done)))))), clOf [.read, .ext, .pure, .read, .loud, .pure, .pure]) else (.done, clOf [])
def ord283 : Nat → Ord × (Nat → Cls) := fun id => bif Nat.beq id 5 then (.one 0 (.one 1 (.one 2 (.one 3 (.one 4 (.one 5 (.one 6 (.one 7 .done))))))), clOf [.pure, .pure, .pure, .pure, .read, .read, .loud, .pure]) else bif Nat.beq id 8 then (.one 0 (.one 1 (.one 2 (.one 3 (.one 4 (.one 5 (.one 6 (.one 7 (.one 8 (.one 9 (.one 10 (.one 11 (.one 12 (.one 13 (.one 14 (.one 15 .done))))))))))))))), clOf [.pure, .pure, .pure, .pure, .pure, .pure, .pure, .pure, .pure, .read, .read, .loud, .pure, .pure, .pure, .pure]) else (.done, clOf [])
def ord284 : Nat → Ord × (Nat → Cls) := fun id => bif Nat.beq id 11 then (.one 0 (.one 1 (.one 2 (.one 3 (.one 4 (.one 5 (.one 6 (.one 7 (.one 8 .done)))))))), clOf [.pure, .pure, .pure, .pure, .pure, .pure, .pure, .pure, .loud]) else bif Nat.beq id 15 then (.one 0 (.one 1 (.one 2 (.one 3 (.one 4 (.one 5 (.one 6 (.one 7 (.one 8 .done)))))))), clOf [.pure, .pure, .pure, .pure, .pure, .pure, .pure, .pure, .loud]) else (.done, clOf [])
def ord285 : Nat → Ord × (Nat → Cls) := fun id => bif Nat.beq id 1 then (.one 0 (.one 2 (.one 3 (.one 4 (.one 5 (.one 6 (.one 7 (.alt 1 (.one 8 (.one 9 (.one 10 (.one 11 .done)))) (.alt 8 (.one 1 (.one 9 (.one 10 (.one 11 .done)))) (.none))))))))), clOf [.pure, .ext, .pure, .read, .pure, .pure, .read, .pure, .loud, .pure, .pure, .loud]) else (.done, clOf [])
abbrev ord289 := ordZ
abbrev ord290 := ordZ
abbrev ord291 := ordZ
abbrev ord294 := ordZ
def ord295 : Nat → Ord × (Nat → Cls) := fun id => bif Nat.beq id 1 then (.one 0 (.one 1 (.one 2 (.one 3 (.one 4 (.one 5 (.one 6 .done)))))), clOf [.pure, .pure, .read, .read, .ext, .loud, .pure]) else (.done, clOf [])
abbrev ord298 := ordZ
def ord299 : Nat → Ord × (Nat → Cls) := fun id => bif Nat.beq id 5 then (.one 1 (.one 2 (.one 3 (.one 4 (.one 0 (.one 5 .done))))), clOf [.loud, .pure, .pure, .pure, .pure, .loud]) else (.done, clOf [])
abbrev ord301 := ordZ
abbrev ord302 := ordZ
abbrev ord303 := ordZ
abbrev ord304 := ordZ
def ord305 : Nat → Ord × (Nat → Cls) := fun id => bif Nat.beq id 6 then (.one 0 (.one 1 (.one 2 (.one 3 (.one 4 (.one 5 (.one 6 (.one 7 (.one 8 (.one 9 (.one 10 (.one 11 (.one 12 (.one 13 (.one 14 (.one 15 (.one 16 (.one 17 (.one 18 .done)))))))))))))))))), clOf [.pure, .pure, .pure, .pure, .pure, .pure, .pure, .pure, .pure, .pure, .pure, .pure, .pure, .pure, .pure, .pure, .read, .pure, .pure]) else (.done, clOf [])
abbrev ord307 := ordZ
end Go.Proofs.YtmllihbhphnolaaGreat
namespace Go.Proofs.YtmllihbhphnolaaGreat
open Go Go.CF
set_option maxRecDepth 20000
def intC (x : Int) : List AV := [.val (.int .i64 x)]
abbrev ints (l : List Int) : AV := .sl 1 l intC
theorem vb {a b : Bool} (h : a = b) : AV.val (.bool a) = AV.val (.bool b) := by rw [h]
theorem all_succ {α : Type} {l : List α} {i : Nat} {x : α} {P : α → Prop} (h : l[i]? = some x) (ha : ∀ y ∈ l.take i, P y) (hx : P x) : ∀ y ∈ l.take (i + 1), P y := fun y hy => by
 rw [List.take_add_one, h] at hy
 rcases List.mem_append.1 hy with h1|h1
 ·exact ha y h1
 ·simp at h1;exact h1 ▸ hx
theorem get_of {α : Type} {l : List α} {i : Nat} (h : i < l.length) : ∃ x, l[i]? = some x := ⟨_, List.getElem?_eq_getElem h⟩
theorem equal_p (a b : List Int) : CallP Tryz.prog 19 [ints a, ints b] (.val (.bool (decide (a = b)))) := by
 refine CallA.of pg ord19 Tryz.func19 rfl Tryz.ntmps19 Tryz.results19 rfl fun h0 G0 O0 => ?_
 repeat' (first|refine Sp.h ?_|refine Lk.r rfl ?_|refine Rf.mk rfl ?_|(refine Bd.mk ?_ ?_ <;> intro _)|(refine Im.mk ?_;intro _)|(apply Nm.r;focus repeat constructor)|fail)
 ·rename_i ha hb hab _
  refine CA.loop (fun i : Nat => ⟨[(0, ints a), (1, ints b), (12, .val (.int .i64 a.length)), (13, .val (.int .i64 i))], []⟩) (fun i => i ≤ a.length ∧ a.take i = b.take i) (fun i => a.length - i) 0 ⟨by repeat first|trivial|refine ⟨rfl,?_⟩,by repeat first|exact .nil|refine .cons (by repeat constructor) ?_⟩ ⟨Nat.zero_le _, by simp⟩ ?_
  rintro i ⟨hi, heq⟩
  by_cases hin : i < a.length
  ·obtain ⟨x, hx⟩ : ∃ x, a[i]? = some x := ⟨_, List.getElem?_eq_getElem hin⟩
   obtain ⟨y, hy⟩ : ∃ y, b[i]? = some y := ⟨_, List.getElem?_eq_getElem (by omega)⟩
   repeat' (first|refine Sp.h ?_|refine Lk.r rfl ?_|refine Rf.mk rfl ?_|(apply Bd.t;(focus first|assumption|omega|rfl))|(refine Bd.mk ?_ ?_ <;> intro _)|refine OpK.r rfl ?_|(apply Ix.q;(focus exact rfl);(focus assumption))|(apply Nm.r;focus repeat constructor)|(apply CA.draw;(focus rfl);(focus kernel_rfl);(focus kernel_rfl);(focus repeat' constructor);(focus rfl))|(apply Ov.n;(focus first|omega|(simp <;> omega)))|fail)
   ·rename_i hxy
    refine PA.lp (i + 1) ⟨by repeat first|trivial|refine ⟨rfl,?_⟩,by repeat first|exact .nil|refine .cons (by repeat constructor) ?_⟩ ⟨⟨hin, ?_⟩, by omega⟩
    rw [List.take_add_one, List.take_add_one, hx, hy, heq, show x = y by omega]
   ·rename_i hxy
    refine Fin.p rfl ?_
    rw [decide_eq_false (fun e => hxy ?_)]
    subst e;rw [hx] at hy;cases hy;rfl
  ·have : i = a.length := by omega
   subst this
   repeat' (first|refine Sp.h ?_|refine Lk.r rfl ?_|refine Rf.mk rfl ?_|(apply Bd.f;(focus first|assumption|omega|exact Bool.false_ne_true))|(apply Nm.r;focus repeat constructor)|fail)
   refine Fin.p rfl ?_
   rw [List.take_length] at heq
   rw [decide_eq_true (by rw [heq, List.take_of_length_le (by omega)])]
 ·rename_i h
  refine Fin.p rfl ?_
  rw [decide_eq_false (fun e => h (by rw [e]))]
/-! ### Valid -/
def rngK (x : Int) : Prop := 0 ≤ x ∧ x ≤ 1024
def ValC (c : List Int) : Prop := (∀ x ∈ c, rngK x) ∧ 1 ≤ c.length ∧ c.length ≤ 5
noncomputable instance (c : List Int) : Decidable (ValC c) := Classical.propDecidable _
theorem validC_p (c : List Int) : CallP Tryz.prog 44 [ints c] (.val (.bool (decide (ValC c)))) := by
 refine CallA.of pg ord44 Tryz.func44 rfl Tryz.ntmps44 Tryz.results44 rfl fun h0 G0 O0 => ?_
 repeat' (first|refine Sp.h ?_|refine Lk.r rfl ?_|refine Rf.mk rfl ?_|(refine Im.mk ?_;intro _)|fail)
 refine CA.loop (fun i : Nat => ⟨[(0, ints c), (5, ints c), (6, .val (.int .i64 c.length)), (7, .val (.int .i64 i))], []⟩) (fun i => i ≤ c.length ∧ ∀ x ∈ c.take i, rngK x) (fun i => c.length - i) 0 ⟨by repeat first|trivial|refine ⟨rfl,?_⟩,by repeat first|exact .nil|refine .cons (by repeat constructor) ?_⟩ ⟨Nat.zero_le _, by simp⟩ ?_
 rintro i ⟨hi, ha⟩
 by_cases hin : i < c.length
 ·obtain ⟨x, hx⟩ := get_of hin
  repeat' (first|refine Sp.h ?_|refine Lk.r rfl ?_|refine Rf.mk rfl ?_|(apply Bd.t;(focus first|assumption|omega|rfl))|(apply Bd.f;(focus first|assumption|omega|exact Bool.false_ne_true))|(refine Bd.mk ?_ ?_ <;> intro _)|(apply Ix.q;(focus exact rfl);(focus assumption))|(apply Nm.r;focus repeat constructor)|(apply Ov.n;(focus first|omega|(simp <;> omega)))|fail)
  all_goals first
   | exact PA.lp (i + 1) ⟨by repeat first|trivial|refine ⟨rfl,?_⟩,by repeat first|exact .nil|refine .cons (by repeat constructor) ?_⟩ ⟨⟨hin, all_succ hx ha ⟨by omega, by omega⟩⟩, by omega⟩
   | exact Fin.p rfl (vb (decide_eq_false (fun h => by have h1 := h.1 x (List.mem_of_getElem? hx);unfold rngK at h1;omega)).symm)
 ·have : i = c.length := by omega
  subst this
  rw [List.take_length] at ha
  repeat' (first|refine Sp.h ?_|refine Lk.r rfl ?_|refine Rf.mk rfl ?_|(apply Bd.t;(focus first|assumption|omega|rfl))|(apply Bd.f;(focus first|assumption|omega|exact Bool.false_ne_true))|(refine Bd.mk ?_ ?_ <;> intro _)|(refine Im.mk ?_;intro _)|(apply Nm.r;focus repeat constructor)|fail)
  all_goals exact Fin.p rfl (vb (by first|exact (decide_eq_false (fun h => by have := h.2;omega)).symm|exact decide_eq_decide.2 ⟨fun h => ⟨ha, by omega, by omega⟩, fun h => by have := h.2;omega⟩))
def HasC (c : List Int) (r n : Int) : Prop := ValC c ∧ 0 ≤ r ∧ 1 ≤ n ∧ ∃ x, c[r.toNat]? = some x ∧ n ≤ x
noncomputable instance (c : List Int) (r n : Int) : Decidable (HasC c r n) := Classical.propDecidable _
abbrev dotC (r n : Int) : AV := .agg [.val (.int .i64 r), .val (.int .i64 n)]
theorem hasC_p (c : List Int) (r n : Int) : CallP Tryz.prog 23 [ints c, dotC r n] (.val (.bool (decide (HasC c r n)))) := by
 refine CallA.of pg ord23 Tryz.func23 rfl Tryz.ntmps23 Tryz.results23 rfl fun h0 G0 O0 => ?_
 by_cases hr : 0 ≤ r ∧ r < c.length
 ·obtain ⟨x, hx⟩ := get_of (l := c) (i := r.toNat) (by omega)
  repeat' (first|refine Sp.h ?_|refine Lk.r rfl ?_|refine Rf.mk rfl ?_|refine OpK.r rfl ?_|(refine All.mk ?_;intro _)|(apply CA.draw;(focus rfl);(focus kernel_rfl);(focus kernel_rfl);(focus repeat' constructor);(focus rfl))|fail)
  (apply Cl.p (validC_p _);(focus repeat' (first|exact Lend.nil|apply Lend.keep|fail)))
  repeat' (first|refine Sp.h ?_|refine Lk.r rfl ?_|refine Rf.mk rfl ?_|(apply Bd.t;(focus first|assumption|omega|rfl))|(apply Bd.f;(focus first|assumption|omega|exact Bool.false_ne_true))|(refine Bd.mk ?_ ?_ <;> intro _)|refine OpK.r rfl ?_|(refine Im.mk ?_;intro _)|(apply TkB.r;(focus repeat constructor))|(apply Ix.r;(focus assumption);(focus omega))|(apply Nm.r;focus repeat constructor)|fail)
  all_goals refine Fin.p rfl (vb ?_)
  all_goals first
   | exact decide_eq_decide.2 ⟨fun h => ⟨by assumption, hr.1, by assumption, x, hx, h⟩, fun ⟨_, _, _, y, hy, h⟩ => by rw [hx] at hy;cases hy;exact h⟩
   | exact (decide_eq_false (fun ⟨_, _, _, y, hy, _⟩ => by have := (List.getElem?_eq_some_iff.1 hy).1;first|contradiction|omega)).symm
 ·repeat' (first|refine Sp.h ?_|refine Lk.r rfl ?_|refine Rf.mk rfl ?_|refine OpK.r rfl ?_|(refine All.mk ?_;intro _)|(apply CA.draw;(focus rfl);(focus kernel_rfl);(focus kernel_rfl);(focus repeat' constructor);(focus rfl))|fail)
  (apply Cl.p (validC_p _);(focus repeat' (first|exact Lend.nil|apply Lend.keep|fail)))
  repeat' (first|refine Sp.h ?_|refine Lk.r rfl ?_|refine Rf.mk rfl ?_|(apply Bd.t;(focus first|assumption|omega|rfl))|(apply Bd.f;(focus first|assumption|omega|exact Bool.false_ne_true))|(refine Bd.mk ?_ ?_ <;> intro _)|refine OpK.r rfl ?_|(refine Im.mk ?_;intro _)|(apply TkB.r;(focus repeat constructor))|(apply Nm.r;focus repeat constructor)|fail)
  all_goals refine Fin.p rfl (vb ?_)
  all_goals exact (decide_eq_false (fun ⟨_, _, _, y, hy, _⟩ => by have := (List.getElem?_eq_some_iff.1 hy).1;first|contradiction|omega)).symm
/-! ### alike, inside -/
def clkC (c : List Int) : List AV := [ints c]
abbrev clks (l : List (List Int)) : AV := .sl 1 l clkC
def AlikeC (l : List (List Int)) : Prop := 0 < l.length ∧ ∀ c ∈ l, ValC c ∧ c.length = (l[0]?.getD []).length
noncomputable instance (l : List (List Int)) : Decidable (AlikeC l) := Classical.propDecidable _
theorem alike_p (l : List (List Int)) : CallP Tryz.prog 156 [clks l] (.val (.bool (decide (AlikeC l)))) := by
 refine CallA.of pg ord156 Tryz.func156 rfl Tryz.ntmps156 Tryz.results156 rfl fun h0 G0 O0 => ?_
 repeat' (first|refine Sp.h ?_|refine Lk.r rfl ?_|refine Rf.mk rfl ?_|(refine Im.mk ?_;intro _)|fail)
 refine CA.loop (fun i : Nat => ⟨[(0, clks l), (5, clks l), (6, .val (.int .i64 l.length)), (7, .val (.int .i64 i))], []⟩) (fun i => i ≤ l.length ∧ ∀ c ∈ l.take i, ValC c ∧ c.length = (l[0]?.getD []).length) (fun i => l.length - i) 0 ⟨by repeat first|trivial|refine ⟨rfl,?_⟩,by repeat first|exact .nil|refine .cons (by repeat constructor) ?_⟩ ⟨Nat.zero_le _, by simp⟩ ?_
 rintro i ⟨hi, ha⟩
 by_cases hin : i < l.length
 ·obtain ⟨c, hc⟩ := get_of hin
  obtain ⟨b, hb⟩ := get_of (l := l) (i := 0) (by omega)
  have hbb : (l[0]?.getD []).length = b.length := by rw [hb];rfl
  repeat' (first|refine Sp.h ?_|refine Lk.r rfl ?_|refine Rf.mk rfl ?_|(apply Bd.t;(focus first|assumption|omega|rfl))|(apply Ix.q;(focus exact rfl);(focus assumption))|fail)
  (apply Cl.p (validC_p _);(focus repeat' (first|exact Lend.nil|apply Lend.keep|fail)))
  repeat' (first|refine Sp.h ?_|refine Lk.r rfl ?_|refine Rf.mk rfl ?_|(apply Bd.t;(focus first|assumption|omega|rfl))|(apply Bd.f;(focus first|assumption|omega|exact Bool.false_ne_true))|(refine Bd.mk ?_ ?_ <;> intro _)|(refine Im.mk ?_;intro _)|(apply Ix.q;(focus exact rfl);(focus assumption))|(apply Nm.r;focus repeat constructor)|(apply Ov.n;(focus first|omega|(simp <;> omega)))|fail)
  all_goals first
   | exact Fin.p rfl (vb (decide_eq_false (fun h => by have h1 := h.2 c (List.mem_of_getElem? hc);first|exact absurd h1.1 (by assumption)|omega)).symm)
   | exact PA.lp (i + 1) ⟨by repeat first|trivial|refine ⟨rfl,?_⟩,by repeat first|exact .nil|refine .cons (by repeat constructor) ?_⟩ ⟨⟨hin, all_succ hc ha ⟨by assumption, by omega⟩⟩, by omega⟩
 ·have : i = l.length := by omega
  subst this
  rw [List.take_length] at ha
  repeat' (first|refine Sp.h ?_|refine Lk.r rfl ?_|refine Rf.mk rfl ?_|(apply Bd.f;(focus first|assumption|omega|exact Bool.false_ne_true))|(refine Im.mk ?_;intro _)|(apply Nm.r;focus repeat constructor)|fail)
  exact Fin.p rfl (vb (decide_eq_decide.2 ⟨fun h => ⟨by omega, ha⟩, fun h => by have := h.1;omega⟩))
abbrev CallO (P : Program) (f : FuncId) (args : List AV) {α : Type} (T : TypeId) (sz : Nat) (l : List α) (g : α → List AV) : Prop := CallA P f args [] fun r own => ∃ v, r = .ow v ∧ own = [arrR v T sz l g]
theorem clone_o (l : List Int) (hl : l.length ≤ 1000000000) : CallO Tryz.prog 83 [ints l] 3 1 l intC := by
 refine CallA.of pg ord83 Tryz.func83 rfl Tryz.ntmps83 Tryz.results83 rfl fun h0 G0 O0 => ?_
 repeat' (first|refine Sp.h ?_|refine Lk.r rfl ?_|refine Rf.mk rfl ?_|(refine Bd.mk ?_ ?_ <;> intro _)|(apply Om.mk;(focus first|omega|(simp <;> omega)))|(refine Im.mk ?_;intro _)|(refine All.mk ?_;intro _)|(apply TkA.r;(focus repeat constructor))|refine Ce.l rfl ?_|(apply Fk.r;(focus (repeat (first|exact FillA.nil|(apply FillA.agg;(focus rfl);(focus rfl);(focus (repeat (first|exact SetAs.z|(apply SetAs.c;(focus (repeat first|assumption|constructor)))))))|(apply FillA.one;(focus rfl);(focus infer_instance);(focus (repeat first|assumption|constructor)))))))|(apply Nm.r;focus repeat constructor)|refine Rf.mk ⟨rfl, rfl⟩ ?_|refine Rf.mk ⟨rfl, rfl, rfl⟩ ?_|refine Mp.same ?_|fail)
 ·rename_i b hb hbt
  have hl0 : l = [] := Decidable.byContradiction fun h => by rw [hb h] at hbt;cases hbt
  subst hl0
  exact ⟨_, _, .one (.nils (.nil (by (repeat first|exact .nil|refine .cons (by repeat constructor) ?_)))), _, rfl, rfl⟩
 ·repeat' (first|fail)
  exact ⟨_, _, .one (.same (.nil (by (repeat first|exact .nil|refine .cons (by repeat constructor) ?_)))), _, rfl, rfl⟩
def Ins (a b : List Int) : Prop := ∀ (i : Nat) (x y : Int), a[i]? = some x → b[i]? = some y → x ≤ y
noncomputable instance (a b : List Int) : Decidable (Ins a b) := Classical.propDecidable _
theorem inside_p (a b : List Int) (hab : a.length ≤ b.length) : CallP Tryz.prog 269 [ints a, ints b] (.val (.bool (decide (Ins a b)))) := by
 refine CallA.of pg ord269 Tryz.func269 rfl Tryz.ntmps269 Tryz.results269 rfl fun h0 G0 O0 => ?_
 repeat' (first|refine Sp.h ?_|refine Lk.r rfl ?_|refine Rf.mk rfl ?_|(refine Im.mk ?_;intro _)|fail)
 refine CA.loop (fun i : Nat => ⟨[(0, ints a), (1, ints b), (7, .val (.int .i64 a.length)), (8, .val (.int .i64 i))], []⟩) (fun i => i ≤ a.length ∧ ∀ j x y, j < i → a[j]? = some x → b[j]? = some y → x ≤ y) (fun i => a.length - i) 0 ⟨by repeat first|trivial|refine ⟨rfl,?_⟩,by repeat first|exact .nil|refine .cons (by repeat constructor) ?_⟩ ⟨Nat.zero_le _, fun j x y h => by omega⟩ ?_
 rintro i ⟨hi, ha⟩
 by_cases hin : i < a.length
 ·obtain ⟨x, hx⟩ := get_of hin
  obtain ⟨y, hy⟩ := get_of (l := b) (i := i) (by omega)
  repeat' (first|refine Sp.h ?_|refine Lk.r rfl ?_|refine Rf.mk rfl ?_|(apply Bd.t;(focus first|assumption|omega|rfl))|(refine Bd.mk ?_ ?_ <;> intro _)|refine OpK.r rfl ?_|(apply Ix.q;(focus exact rfl);(focus assumption))|(apply Nm.r;focus repeat constructor)|(apply CA.draw;(focus rfl);(focus kernel_rfl);(focus kernel_rfl);(focus repeat' constructor);(focus rfl))|(apply Ov.n;(focus first|omega|(simp <;> omega)))|fail)
  ·rename_i hxy
   exact Fin.p rfl (vb (decide_eq_false (fun h => by have := h i x y hx hy;omega)).symm)
  ·rename_i hxy
   refine PA.lp (i + 1) ⟨by repeat first|trivial|refine ⟨rfl,?_⟩,by repeat first|exact .nil|refine .cons (by repeat constructor) ?_⟩ ⟨⟨hin, fun j x' y' hj h1 h2 => ?_⟩, by omega⟩
   by_cases e : j = i
   ·subst e;rw [hx] at h1;rw [hy] at h2;cases h1;cases h2;omega
   ·exact ha j x' y' (by omega) h1 h2
 ·have : i = a.length := by omega
  subst this
  repeat' (first|refine Sp.h ?_|refine Lk.r rfl ?_|refine Rf.mk rfl ?_|(apply Bd.f;(focus first|assumption|omega|exact Bool.false_ne_true))|(apply Nm.r;focus repeat constructor)|fail)
  exact Fin.p rfl (vb (decide_eq_true (p := Ins a b) (fun j x y h1 h2 => ha j x y (List.getElem?_eq_some_iff.1 h1).1 h1 h2)).symm)
end Go.Proofs.YtmllihbhphnolaaGreat
namespace Go.Proofs.YtmllihbhphnolaaGreat
open Go Go.CF
set_option maxRecDepth 20000
theorem alike2 (a b : List Int) : AlikeC [a, b] ↔ ValC a ∧ ValC b ∧ a.length = b.length := by
 unfold AlikeC
 simp
 intro _ _
 exact eq_comm
/-! ### Missing -/
def spanC (s : Int × Int × Int) : List AV := [.val (.int .i64 s.1), .val (.int .i64 s.2.1), .val (.int .i64 s.2.2)]
instance {p q r : Int} : Inv spanC [.val (.int .i64 p), .val (.int .i64 q), .val (.int .i64 r)] (p, q, r) := ⟨rfl⟩
theorem missing_o (a b : List Int) : CallA Tryz.prog 89 [ints a, ints b] [] fun r own => ∃ v l, r = .ow v ∧ own = [arrR v 106 3 l spanC] ∧ (l = [] ↔ (AlikeC [a, b] → Ins b a)) ∧ l.length ≤ 5 := by
 refine CallA.of pg ord89 Tryz.func89 rfl Tryz.ntmps89 Tryz.results89 rfl fun h0 G0 O0 => ?_
 repeat' (first|refine Sp.h ?_|refine Lk.r rfl ?_|refine Rf.mk rfl ?_|(refine All.mk ?_;intro _)|(apply Fk.r;(focus (repeat (first|exact FillA.nil|(apply FillA.agg;(focus rfl);(focus rfl);(focus (repeat (first|exact SetAs.z|(apply SetAs.c;(focus (repeat first|assumption|constructor)))))))|(apply FillA.one;(focus rfl);(focus infer_instance);(focus (repeat first|assumption|constructor)))))))|refine Rf.mk ⟨rfl, rfl, rfl⟩ ?_|fail)
 rename_i w
 (apply Cl.lend (alike_p [a, b]);(focus repeat' (first|exact Lend.nil|(apply Lend.lendm;(focus repeat constructor);(focus rfl);(focus first|omega|decide|(simp;omega)|exact Nat.le_of_ble_eq_true rfl))|fail)))
 repeat' (first|refine Sp.h ?_|refine Lk.r rfl ?_|refine Rf.mk rfl ?_|(refine Bd.mk ?_ ?_ <;> intro _)|(refine Im.mk ?_;intro _)|(apply Nm.r;focus repeat constructor)|fail)
 ·rename_i hal hla
  obtain ⟨hva, hvb, hlab⟩ := (alike2 a b).1 hal
  refine CA.nilOwn 5 106 3 spanC rfl fun w2 => ?_
  refine CA.loop (fun x : Nat × Value × List (Int × Int × Int) => ⟨[(0, ints a), (1, ints b), (13, .val (.int .i64 a.length)), (14, .val (.int .i64 x.1)), (5, .ow x.2.1)], [arrR x.2.1 106 3 x.2.2 spanC]⟩)
   (fun x => x.1 ≤ a.length ∧ x.2.2.length ≤ x.1 ∧ (x.2.2 = [] ↔ ∀ j p q, j < x.1 → a[j]? = some p → b[j]? = some q → q ≤ p)) (fun x => a.length - x.1) (0, w2, []) ⟨by repeat first|trivial|refine ⟨rfl,?_⟩,by repeat first|exact .nil|refine .cons (by repeat constructor) ?_⟩ ⟨Nat.zero_le _, Nat.le_refl _, ⟨fun _ j p q h => absurd h (by omega), fun _ => rfl⟩⟩ ?_
  rintro ⟨i, v, l⟩ ⟨hi, hl, hq⟩
  simp only at hi hl hq
  by_cases hin : i < a.length
  ·obtain ⟨x, hx⟩ := get_of hin
   obtain ⟨y, hy⟩ := get_of (l := b) (i := i) (by omega)
   have hrx := hva.1 x (List.mem_of_getElem? hx)
   unfold rngK at hrx
   have hva3 := hva.2
   repeat' (first|refine Sp.h ?_|refine Lk.r rfl ?_|refine Rf.mk rfl ?_|(apply Bd.t;(focus first|assumption|omega|rfl))|(refine Bd.mk ?_ ?_ <;> intro _)|refine OpK.r rfl ?_|(apply Om.mk;(focus first|omega|(simp <;> omega)))|(refine All.mk ?_;intro _)|(apply TkA.r;(focus repeat constructor))|(apply Ix.q;(focus exact rfl);(focus assumption))|refine Ce.r ?_|(apply Fk.r;(focus (repeat (first|exact FillA.nil|(apply FillA.agg;(focus rfl);(focus rfl);(focus (repeat (first|exact SetAs.z|(apply SetAs.c;(focus (repeat first|assumption|constructor)))))))|(apply FillA.one;(focus rfl);(focus infer_instance);(focus (repeat first|assumption|constructor)))))))|refine Rf.mk ⟨rfl, rfl⟩ ?_|refine Rf.mk ⟨rfl, rfl, rfl⟩ ?_|(apply Mp.lit;(focus repeat (first|exact MpL.nil|(apply MpL.cons;(focus rfl))|(apply MpL.inv;(focus repeat constructor);(focus infer_instance)))))|(apply CA.draw;(focus rfl);(focus kernel_rfl);(focus kernel_rfl);(focus repeat' constructor);(focus rfl))|(apply Ov.n;(focus first|omega|(simp <;> omega)))|fail)
   ·rename_i hxy _ v2
    refine PA.lp (i + 1, v2, l ++ [((i : Int), x + 1, y)]) ⟨by repeat first|trivial|refine ⟨rfl,?_⟩,by repeat first|exact .nil|refine .cons (by repeat constructor) ?_⟩ ⟨⟨hin, by simp;omega, ?_⟩, by simp only;omega⟩
    constructor
    ·intro h;simp at h
    ·intro h;have := h i x y (by simp) hx hy;omega
   ·rename_i hxy
    refine PA.lp (i + 1, v, l) ⟨by repeat first|trivial|refine ⟨rfl,?_⟩,by repeat first|exact .nil|refine .cons (by repeat constructor) ?_⟩ ⟨⟨hin, by simp only;omega, hq.trans ⟨fun h j p q hj h1 h2 => ?_, fun h j p q hj h1 h2 => h j p q (by simp only;omega) h1 h2⟩⟩, by simp only;omega⟩
    by_cases e : j = i
    ·subst e;rw [hx] at h1;rw [hy] at h2;cases h1;cases h2;omega
    ·exact h j p q (by simp only at hj;omega) h1 h2
  ·have : i = a.length := by omega
   subst this
   repeat' (first|refine Sp.h ?_|refine Lk.r rfl ?_|refine Rf.mk rfl ?_|(apply Bd.f;(focus first|assumption|omega|exact Bool.false_ne_true))|(apply Nm.r;focus repeat constructor)|fail)
   exact ⟨_, _, .one (.same (.nil (by (repeat first|exact .nil|refine .cons (by repeat constructor) ?_)))), v, l, rfl, rfl, ⟨fun h _ j p q h1 h2 => hq.1 h j q p (List.getElem?_eq_some_iff.1 h2).1 h2 h1, fun h => hq.2 fun j p q _ h1 h2 => h hal j q p h2 h1⟩, by have := hva.2;omega⟩
 ·exact ⟨_, _, .one (.nils (.nil (by (repeat first|exact .nil|refine .cons (by repeat constructor) ?_)))), _, [], rfl, rfl, ⟨fun _ h => absurd h (by assumption), fun _ => rfl⟩, by simp⟩
/-! ### Zero -/
theorem zero_ok (n : Int) (hn : 1 ≤ n ∧ n ≤ 5) : CallO Tryz.prog 32 [.val (.int .i64 n)] 3 1 (List.replicate n.toNat 0) intC := by
 obtain ⟨m, rfl⟩ : ∃ m : Nat, n = m := ⟨n.toNat, by omega⟩
 refine CallA.of pg ord32 Tryz.func32 rfl Tryz.ntmps32 Tryz.results32 rfl fun h0 G0 O0 => ?_
 repeat' (first|refine Sp.h ?_|refine Lk.r rfl ?_|refine Rf.mk rfl ?_|(apply Bd.f;(focus first|assumption|omega|exact Bool.false_ne_true))|(refine All.mk ?_;intro _)|(apply Nm.r;focus repeat constructor)|refine Rf.mk ⟨rfl, rfl, rfl⟩ ?_|(apply Jx.r;(focus exact rfl);(focus first|omega|(simp;done)|(simp;omega)))|refine MkS.r intC 0 rfl ?_|fail)
 exact ⟨_, _, .one (.same (.nil (by (repeat first|exact .nil|refine .cons (by repeat constructor) ?_)))), _, rfl, rfl⟩
/-! ### Compare -/
theorem compare_p (a b : List Int) : CallP Tryz.prog 227 [ints a, ints b] (if AlikeC [a, b] then .tup [.val (.int .i64 (if Ins a b ∧ Ins b a then 0 else if Ins a b then 1 else if Ins b a then 2 else 3)), .val (.int .i64 0)] else .tup [.val (.int .i64 0), .val (.int .i64 1)]) := by
 refine CallA.of pg ord227 Tryz.func227 rfl Tryz.ntmps227 Tryz.results227 rfl fun h0 G0 O0 => ?_
 repeat' (first|refine Sp.h ?_|refine Lk.r rfl ?_|refine Rf.mk rfl ?_|(refine All.mk ?_;intro _)|(apply Fk.r;(focus (repeat (first|exact FillA.nil|(apply FillA.agg;(focus rfl);(focus rfl);(focus (repeat (first|exact SetAs.z|(apply SetAs.c;(focus (repeat first|assumption|constructor)))))))|(apply FillA.one;(focus rfl);(focus infer_instance);(focus (repeat first|assumption|constructor)))))))|refine Rf.mk ⟨rfl, rfl, rfl⟩ ?_|fail)
 (apply Cl.lend (alike_p [a, b]);(focus repeat' (first|exact Lend.nil|(apply Lend.lendm;(focus repeat constructor);(focus rfl);(focus first|omega|decide|(simp;omega)|exact Nat.le_of_ble_eq_true rfl))|fail)))
 by_cases hal : AlikeC [a, b]
 ·obtain ⟨_, _, hlab⟩ := (alike2 a b).1 hal
  have l1 : a.length ≤ b.length := by omega
  have l2 : b.length ≤ a.length := by omega
  repeat' (first|refine Sp.h ?_|refine Lk.r rfl ?_|refine Rf.mk rfl ?_|(apply Bd.t;(focus first|assumption|omega|rfl))|fail)
  (apply Cl.p (inside_p a b l1);(focus repeat' (first|exact Lend.nil|apply Lend.keep|fail)))
  repeat' (first|refine Sp.h ?_|refine Lk.r rfl ?_|refine Rf.mk rfl ?_|fail)
  (apply Cl.p (inside_p b a l2);(focus repeat' (first|exact Lend.nil|apply Lend.keep|fail)))
  repeat' (first|refine Sp.h ?_|refine Lk.r rfl ?_|refine Rf.mk rfl ?_|(apply Bd.t;(focus first|assumption|omega|rfl))|(apply Bd.f;(focus first|assumption|omega|exact Bool.false_ne_true))|(refine Bd.mk ?_ ?_ <;> intro _)|(apply Nm.r;focus repeat constructor)|fail)
  all_goals refine Fin.p rfl ?_
  all_goals rw [if_pos hal]
  all_goals simp only [*, and_self, and_true, if_true, if_false, and_false]
 ·repeat' (first|refine Sp.h ?_|refine Lk.r rfl ?_|refine Rf.mk rfl ?_|(apply Bd.f;(focus first|assumption|omega|exact Bool.false_ne_true))|(apply Nm.r;focus repeat constructor)|fail)
  exact Fin.p rfl (by rw [if_neg hal])
end Go.Proofs.YtmllihbhphnolaaGreat
namespace Go.Proofs.YtmllihbhphnolaaGreat
open Go Go.CF
set_option maxRecDepth 20000
theorem validR_p (c : List Int) : CallP Tryz.prog 105 [ints c] (.val (.bool (decide (ValC c)))) := by
 refine CallA.of pg ord105 Tryz.func105 rfl Tryz.ntmps105 Tryz.results105 rfl fun h0 G0 O0 => ?_
 repeat' (first|refine Sp.h ?_|refine Lk.r rfl ?_|refine Rf.mk rfl ?_|fail)
 refine CA.loop (fun i : Nat => ⟨[(0, ints c), (3, .val (.int .i64 i))], []⟩) (fun i => i ≤ c.length ∧ ∀ x ∈ c.take i, rngK x) (fun i => c.length - i) 0 ⟨by repeat first|trivial|refine ⟨rfl,?_⟩,by repeat first|exact .nil|refine .cons (by repeat constructor) ?_⟩ ⟨Nat.zero_le _, by simp⟩ ?_
 rintro i ⟨hi, ha⟩
 by_cases hin : i < c.length
 ·obtain ⟨x, hx⟩ := get_of hin
  repeat' (first|refine Sp.h ?_|refine Lk.r rfl ?_|refine Rf.mk rfl ?_|(apply Bd.t;(focus first|assumption|omega|rfl))|(apply Bd.f;(focus first|assumption|omega|exact Bool.false_ne_true))|(refine Bd.mk ?_ ?_ <;> intro _)|(refine Im.mk ?_;intro _)|(apply Ix.q;(focus exact rfl);(focus assumption))|(apply Nm.r;focus repeat constructor)|(apply Ov.n;(focus first|omega|(simp <;> omega)))|fail)
  all_goals first
   | exact PA.lp (i + 1) ⟨by repeat first|trivial|refine ⟨rfl,?_⟩,by repeat first|exact .nil|refine .cons (by repeat constructor) ?_⟩ ⟨⟨hin, all_succ hx ha ⟨by omega, by omega⟩⟩, by omega⟩
   | exact Fin.p rfl (vb (decide_eq_false (fun h => by have h1 := h.1 x (List.mem_of_getElem? hx);unfold rngK at h1;omega)).symm)
 ·have : i = c.length := by omega
  subst this
  rw [List.take_length] at ha
  repeat' (first|refine Sp.h ?_|refine Lk.r rfl ?_|refine Rf.mk rfl ?_|(apply Bd.t;(focus first|assumption|omega|rfl))|(apply Bd.f;(focus first|assumption|omega|exact Bool.false_ne_true))|(refine Bd.mk ?_ ?_ <;> intro _)|(refine Im.mk ?_;intro _)|(apply Nm.r;focus repeat constructor)|fail)
  all_goals exact Fin.p rfl (vb (by first|exact (decide_eq_false (fun h => by have := h.2;omega)).symm|exact decide_eq_decide.2 ⟨fun h => ⟨ha, by omega, by omega⟩, fun h => by have := h.2;omega⟩))
theorem hasR_p (c : List Int) (r n : Int) : CallP Tryz.prog 122 [ints c, dotC r n] (.val (.bool (decide (HasC c r n)))) := by
 refine CallA.of pg ord122 Tryz.func122 rfl Tryz.ntmps122 Tryz.results122 rfl fun h0 G0 O0 => ?_
 by_cases hr : 0 ≤ r ∧ r < c.length
 ·obtain ⟨x, hx⟩ := get_of (l := c) (i := r.toNat) (by omega)
  repeat' (first|refine Sp.h ?_|refine Lk.r rfl ?_|refine Rf.mk rfl ?_|refine OpK.r rfl ?_|(refine All.mk ?_;intro _)|(apply CA.draw;(focus rfl);(focus kernel_rfl);(focus kernel_rfl);(focus repeat' constructor);(focus rfl))|fail)
  (apply Cl.p (validR_p _);(focus repeat' (first|exact Lend.nil|apply Lend.keep|fail)))
  repeat' (first|refine Sp.h ?_|refine Lk.r rfl ?_|refine Rf.mk rfl ?_|(apply Bd.t;(focus first|assumption|omega|rfl))|(apply Bd.f;(focus first|assumption|omega|exact Bool.false_ne_true))|(refine Bd.mk ?_ ?_ <;> intro _)|refine OpK.r rfl ?_|(refine Im.mk ?_;intro _)|(apply TkB.r;(focus repeat constructor))|(apply Ix.r;(focus assumption);(focus omega))|(apply Nm.r;focus repeat constructor)|fail)
  all_goals refine Fin.p rfl (vb ?_)
  all_goals first
   | exact decide_eq_decide.2 ⟨fun h => ⟨by assumption, hr.1, by assumption, x, hx, h⟩, fun ⟨_, _, _, y, hy, h⟩ => by rw [hx] at hy;cases hy;exact h⟩
   | exact (decide_eq_false (fun ⟨_, _, _, y, hy, _⟩ => by have := (List.getElem?_eq_some_iff.1 hy).1;first|contradiction|omega)).symm
 ·repeat' (first|refine Sp.h ?_|refine Lk.r rfl ?_|refine Rf.mk rfl ?_|refine OpK.r rfl ?_|(refine All.mk ?_;intro _)|(apply CA.draw;(focus rfl);(focus kernel_rfl);(focus kernel_rfl);(focus repeat' constructor);(focus rfl))|fail)
  (apply Cl.p (validR_p _);(focus repeat' (first|exact Lend.nil|apply Lend.keep|fail)))
  repeat' (first|refine Sp.h ?_|refine Lk.r rfl ?_|refine Rf.mk rfl ?_|(apply Bd.t;(focus first|assumption|omega|rfl))|(apply Bd.f;(focus first|assumption|omega|exact Bool.false_ne_true))|(refine Bd.mk ?_ ?_ <;> intro _)|refine OpK.r rfl ?_|(refine Im.mk ?_;intro _)|(apply TkB.r;(focus repeat constructor))|(apply Nm.r;focus repeat constructor)|fail)
  all_goals refine Fin.p rfl (vb ?_)
  all_goals exact (decide_eq_false (fun ⟨_, _, _, y, hy, _⟩ => by have := (List.getElem?_eq_some_iff.1 hy).1;first|contradiction|omega)).symm
theorem intsR_p (a b : List Int) : CallP Tryz.prog 129 [ints a, ints b] (.val (.bool (decide (a = b)))) := by
 refine CallA.of pg ord129 Tryz.func129 rfl Tryz.ntmps129 Tryz.results129 rfl fun h0 G0 O0 => ?_
 repeat' (first|refine Sp.h ?_|refine Lk.r rfl ?_|refine Rf.mk rfl ?_|(refine Bd.mk ?_ ?_ <;> intro _)|(refine Im.mk ?_;intro _)|(apply Nm.r;focus repeat constructor)|fail)
 ·refine CA.loop (fun i : Nat => ⟨[(0, ints a), (1, ints b), (5, .val (.int .i64 i))], []⟩) (fun i => i ≤ a.length ∧ a.take i = b.take i) (fun i => a.length - i) 0 ⟨by repeat first|trivial|refine ⟨rfl,?_⟩,by repeat first|exact .nil|refine .cons (by repeat constructor) ?_⟩ ⟨Nat.zero_le _, by simp⟩ ?_
  rintro i ⟨hi, heq⟩
  by_cases hin : i < a.length
  ·obtain ⟨x, hx⟩ := get_of hin
   obtain ⟨y, hy⟩ := get_of (l := b) (i := i) (by omega)
   repeat' (first|refine Sp.h ?_|refine Lk.r rfl ?_|refine Rf.mk rfl ?_|(apply Bd.t;(focus first|assumption|omega|rfl))|(refine Bd.mk ?_ ?_ <;> intro _)|refine OpK.r rfl ?_|(refine Im.mk ?_;intro _)|(apply Ix.q;(focus exact rfl);(focus assumption))|(apply Nm.r;focus repeat constructor)|(apply CA.draw;(focus rfl);(focus kernel_rfl);(focus kernel_rfl);(focus repeat' constructor);(focus rfl))|(apply Ov.n;(focus first|omega|(simp <;> omega)))|fail)
   ·refine PA.lp (i + 1) ⟨by repeat first|trivial|refine ⟨rfl,?_⟩,by repeat first|exact .nil|refine .cons (by repeat constructor) ?_⟩ ⟨⟨hin, ?_⟩, by omega⟩
    rw [List.take_add_one, List.take_add_one, hx, hy, heq, show x = y by omega]
   ·rename_i hxy
    refine Fin.p rfl (vb (decide_eq_false (fun e => hxy ?_)).symm)
    subst e;rw [hx] at hy;cases hy;rfl
  ·have : i = a.length := by omega
   subst this
   repeat' (first|refine Sp.h ?_|refine Lk.r rfl ?_|refine Rf.mk rfl ?_|(apply Bd.f;(focus first|assumption|omega|exact Bool.false_ne_true))|(refine Im.mk ?_;intro _)|(apply Nm.r;focus repeat constructor)|fail)
   refine Fin.p rfl (vb (decide_eq_true ?_).symm)
   rw [List.take_length] at heq
   rw [heq, List.take_of_length_le (by omega)]
 ·rename_i h
  exact Fin.p rfl (vb (decide_eq_false (fun e => h (by rw [e]))).symm)
/-! ### Events -/
structure EvS where
 rep : Int
 num : Int
 time : Int
 past : List Int
 kind : Int
 action : Int
 gk : Int
 gi : Int
 ge : Int
 ga : Int
 to : Int
 place : Int
 serial : Int
abbrev iv (x : Int) : AV := .val (.int .i64 x)
def evC (e : EvS) : List AV := [iv e.rep, iv e.num, iv e.time, ints e.past, iv e.kind, iv e.action, iv e.gk, iv e.gi, iv e.ge, iv e.ga, iv e.to, iv e.place, iv e.serial]
abbrev evA' (e : EvS) : AV := .agg (evC e)
abbrev evs (l : List EvS) : AV := .sl 13 l evC
theorem name_p (e : EvS) : CallP Tryz.prog 142 [evA' e] (dotC e.rep e.num) := by
 refine CallA.of pg ord142 Tryz.func142 rfl Tryz.ntmps142 Tryz.results142 rfl fun h0 G0 O0 => ?_
 repeat' (first|refine Sp.h ?_|refine Lk.r rfl ?_|refine Rf.mk rfl ?_|(refine All.mk ?_;intro _)|(apply TkB.r;(focus repeat constructor))|(apply SetAsk.r;(focus (repeat (first|exact SetAs.z|(apply SetAs.c;(focus (repeat first|assumption|constructor)))))))|(apply Fk.r;(focus (repeat (first|exact FillA.nil|(apply FillA.agg;(focus rfl);(focus rfl);(focus (repeat (first|exact SetAs.z|(apply SetAs.c;(focus (repeat first|assumption|constructor)))))))|(apply FillA.one;(focus rfl);(focus infer_instance);(focus (repeat first|assumption|constructor)))))))|(apply Nm.r;focus repeat constructor)|fail)
 exact Fin.p rfl rfl
theorem nameR_p (e : EvS) : CallP Tryz.prog 24 [evA' e] (dotC e.rep e.num) := by
 refine CallA.of pg ord24 Tryz.func24 rfl Tryz.ntmps24 Tryz.results24 rfl fun h0 G0 O0 => ?_
 repeat' (first|refine Sp.h ?_|refine Lk.r rfl ?_|refine Rf.mk rfl ?_|(refine All.mk ?_;intro _)|(apply TkB.r;(focus repeat constructor))|(apply SetAsk.r;(focus (repeat (first|exact SetAs.z|(apply SetAs.c;(focus (repeat first|assumption|constructor)))))))|(apply Fk.r;(focus (repeat (first|exact FillA.nil|(apply FillA.agg;(focus rfl);(focus rfl);(focus (repeat (first|exact SetAs.z|(apply SetAs.c;(focus (repeat first|assumption|constructor)))))))|(apply FillA.one;(focus rfl);(focus infer_instance);(focus (repeat first|assumption|constructor)))))))|(apply Nm.r;focus repeat constructor)|fail)
 exact Fin.p rfl rfl
def Btw (n lo hi : Int) : Prop := lo ≤ n ∧ n ≤ hi
instance (n lo hi : Int) : Decidable (Btw n lo hi) := inferInstanceAs (Decidable (_ ∧ _))
theorem between_p (n lo hi : Int) : CallP Tryz.prog 84 [iv n, iv lo, iv hi] (.val (.bool (decide (Btw n lo hi)))) := by
 refine CallA.of pg ord84 Tryz.func84 rfl Tryz.ntmps84 Tryz.results84 rfl fun h0 G0 O0 => ?_
 repeat' (first|refine Sp.h ?_|refine Lk.r rfl ?_|refine Rf.mk rfl ?_|(apply Bd.t;(focus first|assumption|omega|rfl))|(apply Bd.f;(focus first|assumption|omega|exact Bool.false_ne_true))|(refine Bd.mk ?_ ?_ <;> intro _)|(apply Nm.r;focus repeat constructor)|fail)
 all_goals refine Fin.p rfl (vb ?_)
 ·exact decide_eq_decide.2 (by unfold Btw;omega)
 ·exact (decide_eq_false (by unfold Btw;omega)).symm
end Go.Proofs.YtmllihbhphnolaaGreat
namespace Go.Proofs.YtmllihbhphnolaaGreat
open Go Go.CF
set_option maxRecDepth 20000
theorem rdInt : RdT Tryz.prog 3 (Rp.int .i64) := RdT.int Tryz.underlying3 (by kernel_rfl)
theorem rdInts : RdT Tryz.prog 22 (Rp.int .i64).slice := RdT.slice Tryz.underlying22 (by kernel_rfl) rdInt (by decide)
abbrev RightT := Int × Int × Int × Unit
def Rp.rightT : Rp RightT := (Rp.int .i64).pair ((Rp.int .i64).pair ((Rp.int .i64).pair Rp.unit))
theorem rdRight : RdT Tryz.prog 33 Rp.rightT := RdT.struct Tryz.underlying33 rfl (by kernel_rfl) (RdF.cons rfl rdInt rfl (RdF.cons rfl rdInt rfl (RdF.cons rfl rdInt rfl RdF.nil)))
abbrev NeedT := RightT × Int × Unit
def Rp.needT : Rp NeedT := Rp.rightT.pair ((Rp.int .i64).pair Rp.unit)
theorem rdNeed : RdT Tryz.prog 35 Rp.needT := RdT.struct Tryz.underlying35 rfl (by kernel_rfl) (RdF.cons rfl rdRight rfl (RdF.cons rfl rdInt rfl RdF.nil))
abbrev EventT := Int × Int × Int × List Int × Int × Int × NeedT × Int × Int × Int × Unit
def Rp.eventT : Rp EventT := (Rp.int .i64).pair ((Rp.int .i64).pair ((Rp.int .i64).pair ((Rp.int .i64).slice.pair ((Rp.int .i64).pair ((Rp.int .i64).pair (Rp.needT.pair ((Rp.int .i64).pair ((Rp.int .i64).pair ((Rp.int .i64).pair Rp.unit)))))))))
theorem rdEvent : RdT Tryz.prog 37 Rp.eventT := RdT.struct Tryz.underlying37 rfl (by kernel_rfl)
 (RdF.cons rfl rdInt rfl (RdF.cons rfl rdInt rfl (RdF.cons rfl rdInt rfl (RdF.cons rfl rdInts rfl (RdF.cons rfl rdInt rfl (RdF.cons rfl rdInt rfl (RdF.cons rfl rdNeed rfl (RdF.cons rfl rdInt rfl (RdF.cons rfl rdInt rfl (RdF.cons rfl rdInt rfl RdF.nil))))))))))
def evOf : EventT → EvS
 | (rep, num, time, past, kind, action, ((gk, gi, ge, ()), ga, ()), to, place, serial, ()) =>
  { rep := rep, num := num, time := time, past := past, kind := kind, action := action, gk := gk, gi := gi, ge := ge, ga := ga, to := to, place := place, serial := serial }
def evIn (e : EvS) : EventT := (e.rep, e.num, e.time, e.past, e.kind, e.action, ((e.gk, e.gi, e.ge, ()), e.ga, ()), e.to, e.place, e.serial, ())
def Rp.event : Rp EvS := Rp.eventT.iso evIn
theorem rdEv : RdT Tryz.prog 37 Rp.event := RdT.iso rdEvent evIn evOf (fun _ => rfl)
theorem rdEvs : RdT Tryz.prog 31 Rp.event.slice := RdT.slice Tryz.underlying31 (by kernel_rfl) rdEv (by decide)
theorem avInts : Avr (Rp.int .i64).slice fun l => [ints l] := Avr.int.slice
theorem avEvent : Avr Rp.event evC :=
 ((Avr.int.pair (Avr.int.pair (Avr.int.pair (avInts.pair (Avr.int.pair (Avr.int.pair (((Avr.int.pair (Avr.int.pair (Avr.int.pair Avr.unit))).pair (Avr.int.pair Avr.unit)).pair (Avr.int.pair (Avr.int.pair (Avr.int.pair Avr.unit)))))))))).iso evIn).cast fun _ => rfl
theorem avEvs : Avr Rp.event.slice fun l => [evs l] := avEvent.slice
end Go.Proofs.YtmllihbhphnolaaGreat
namespace Go.Proofs.YtmllihbhphnolaaGreat
open Go Go.CF Go.ChangeShapes Go.WideShapes Go.ChangeAt Go.RowKit
set_option maxRecDepth 100000

theorem knob : ownKnob Tryz.prog.godebug = none := by kernel_rfl
theorem laid : laidOutB Tryz.prog = true := by kernel_rfl
theorem sliceArg {W : World} {r : Reach} {b : Nat} {t e : TypeId} {v : Value} {α : Type} {R : Rp α} {l : List α} (ht : Tryz.prog.underlying t = some (.slice e)) (hv : Value.okWide Tryz.prog W r b t v) (h : R.slice.R W.heap (Old W.heap) v.cells.toList l) : R.slice.R W.heap (Old W.heap) [v] l := by
 rw [CF.okWide_slice ht hv] at h;exact h
end Go.Proofs.YtmllihbhphnolaaGreat
namespace Go.CF
open Go Go.ChangeShapes Go.WideShapes Go.ChangeAt Go.RowKit
def Rp.str : Rp ByteArray where
 sz := 1
 R := fun _ _ cs a => cs = [.string a]
 len := by rintro _ _ _ _ rfl;rfl
 one := by rintro _ _ _ _ rfl u hu;simp at hu;subst hu;rfl
 stp := fun _ _ h => h
 mono := fun _ h => h
 lt := fun h => h
theorem RdT.str {P : Program} {t : TypeId} (ht : P.underlying t = some .string) (hc : P.cellsOf t = 1) : RdT P t Rp.str :=
 ⟨hc, fun h => by obtain ⟨b, h1, _⟩ := DataW.trod_string ht h;exact ⟨b, h1⟩⟩
theorem Avr.str : Avr Rp.str fun s => [.val (.string s)] := ⟨by rintro _ _ _ _ rfl;exact ⟨⟨rfl, trivial⟩, fun u hu => by rw [List.mem_singleton.1 hu];rfl⟩⟩
theorem Avr.bool : Avr Rp.bool fun b => [.val (.bool b)] := ⟨by rintro _ _ _ _ rfl;exact ⟨⟨rfl, trivial⟩, fun u hu => by rw [List.mem_singleton.1 hu];rfl⟩⟩
theorem Avr.agg {α : Type} {r : Rp α} {f : α → List AV} (ha : Avr r f) {h : Heap} {F : Nat → Prop} {v : Value} {a : α} (hv : v = .agg v.cells) (hr : r.R h F v.cells.toList a) : (AV.agg (f a)).R h F v := ⟨v.cells.toList, by simpa using hv, ha.rep hr⟩
end Go.CF
