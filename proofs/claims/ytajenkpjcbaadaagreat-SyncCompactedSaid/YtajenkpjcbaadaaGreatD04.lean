/- Part 4 of the ground of this proof: what its texts say of the model, the program and the plain data; conditions: those that are named. -/
import Derived.Test.YtajenkpjcbaadaaGreatProg
import Derived.KernelRfl
import Derived.Test.YtajenkpjcbaadaaGreatRows
import Derived.Test.YtajenkpjcbaadaaGreatD03
namespace Go.Proofs.YtajenkpjcbaadaaGreat
open Go Go.CF
def ti3 : TI := ⟨.int .i64, 1, 8, .int .i64 0⟩ -- int
theorem tok3 : TOK Tryz.prog 3 ti3 := TOK.mk' (by kernel_rfl) (by kernel_rfl)
def ti4 : TI := ⟨.bool, 1, 1, .bool false⟩ -- bool
theorem tok4 : TOK Tryz.prog 4 ti4 := TOK.mk' (by kernel_rfl) (by kernel_rfl)
def ti5 : TI := ⟨.int .u8, 1, 1, .int .u8 0⟩ -- uint8
theorem tok5 : TOK Tryz.prog 5 ti5 := TOK.mk' (by kernel_rfl) (by kernel_rfl)
def ti9 : TI := ⟨.str, 1, 16, .string ⟨#[]⟩⟩ -- string
theorem tok9 : TOK Tryz.prog 9 ti9 := TOK.mk' (by kernel_rfl) (by kernel_rfl)
def ti22 : TI := ⟨.slice 3, 1, 24, .slice none 0 0⟩ -- []int
theorem tok22 : TOK Tryz.prog 22 ti22 := TOK.mk' (by kernel_rfl) (by kernel_rfl)
def ti23 : TI := ⟨.slice 94, 1, 24, .slice none 0 0⟩ -- []api.Table
theorem tok23 : TOK Tryz.prog 23 ti23 := TOK.mk' (by kernel_rfl) (by kernel_rfl)
def ti24 : TI := ⟨.slice 9, 1, 24, .slice none 0 0⟩ -- []string
theorem tok24 : TOK Tryz.prog 24 ti24 := TOK.mk' (by kernel_rfl) (by kernel_rfl)
def ti25 : TI := ⟨.slice 148, 1, 24, .slice none 0 0⟩ -- []api.Constraint
theorem tok25 : TOK Tryz.prog 25 ti25 := TOK.mk' (by kernel_rfl) (by kernel_rfl)
def ti26 : TI := ⟨.slice 150, 1, 24, .slice none 0 0⟩ -- []api.Operation
theorem tok26 : TOK Tryz.prog 26 ti26 := TOK.mk' (by kernel_rfl) (by kernel_rfl)
def ti27 : TI := ⟨.slice 86, 1, 24, .slice none 0 0⟩ -- []api.Action
theorem tok27 : TOK Tryz.prog 27 ti27 := TOK.mk' (by kernel_rfl) (by kernel_rfl)
def ti28 : TI := ⟨.slice 246, 1, 24, .slice none 0 0⟩ -- []api.Hide
theorem tok28 : TOK Tryz.prog 28 ti28 := TOK.mk' (by kernel_rfl) (by kernel_rfl)
def ti30 : TI := ⟨.struct [(0, 22, 1), (1, 23, 1), (2, 24, 1), (3, 25, 1), (4, 26, 1), (5, 27, 1), (6, 28, 1)], 7, 168, .agg #[.slice none 0 0, .slice none 0 0, .slice none 0 0, .slice none 0 0, .slice none 0 0, .slice none 0 0, .slice none 0 0]⟩ -- api.Model
theorem tok30 : TOK Tryz.prog 30 ti30 := TOK.mk' (by kernel_rfl) (by kernel_rfl)
def ti31 : TI := ⟨.slice 40, 1, 24, .slice none 0 0⟩ -- []api.Event
theorem tok31 : TOK Tryz.prog 31 ti31 := TOK.mk' (by kernel_rfl) (by kernel_rfl)
def ti36 : TI := ⟨.struct [(0, 3, 1), (1, 3, 1), (2, 3, 1)], 3, 24, .agg #[.int .i64 0, .int .i64 0, .int .i64 0]⟩ -- api.Right
theorem tok36 : TOK Tryz.prog 36 ti36 := TOK.mk' (by kernel_rfl) (by kernel_rfl)
def ti38 : TI := ⟨.struct [(0, 36, 3), (3, 3, 1)], 4, 32, .agg #[.int .i64 0, .int .i64 0, .int .i64 0, .int .i64 0]⟩ -- api.Need
theorem tok38 : TOK Tryz.prog 38 ti38 := TOK.mk' (by kernel_rfl) (by kernel_rfl)
def ti40 : TI := ⟨.struct [(0, 3, 1), (1, 3, 1), (2, 3, 1), (3, 22, 1), (4, 3, 1), (5, 3, 1), (6, 38, 4), (10, 3, 1), (11, 3, 1), (12, 3, 1)], 13, 120, .agg #[.int .i64 0, .int .i64 0, .int .i64 0, .slice none 0 0, .int .i64 0, .int .i64 0, .int .i64 0, .int .i64 0, .int .i64 0, .int .i64 0, .int .i64 0, .int .i64 0, .int .i64 0]⟩ -- api.Event
theorem tok40 : TOK Tryz.prog 40 ti40 := TOK.mk' (by kernel_rfl) (by kernel_rfl)
def ti43 : TI := ⟨.ptr 103, 1, 8, .pointer none⟩ -- *antientropy.Peer
theorem tok43 : TOK Tryz.prog 43 ti43 := TOK.mk' (by kernel_rfl) (by kernel_rfl)
def ti45 : TI := ⟨.int .i64, 1, 8, .int .i64 0⟩ -- api.Errno
theorem tok45 : TOK Tryz.prog 45 ti45 := TOK.mk' (by kernel_rfl) (by kernel_rfl)
def ti56 : TI := ⟨.slice 22, 1, 24, .slice none 0 0⟩ -- [][]int
theorem tok56 : TOK Tryz.prog 56 ti56 := TOK.mk' (by kernel_rfl) (by kernel_rfl)
def ti59 : TI := ⟨.slice 43, 1, 24, .slice none 0 0⟩ -- []*antientropy.Peer
theorem tok59 : TOK Tryz.prog 59 ti59 := TOK.mk' (by kernel_rfl) (by kernel_rfl)
def ti61 : TI := ⟨.ptr 134, 1, 8, .pointer none⟩ -- *store.Store
theorem tok61 : TOK Tryz.prog 61 ti61 := TOK.mk' (by kernel_rfl) (by kernel_rfl)
def ti70 : TI := ⟨.struct [(0, 3, 1), (1, 3, 1)], 2, 16, .agg #[.int .i64 0, .int .i64 0]⟩ -- api.Dot
theorem tok70 : TOK Tryz.prog 70 ti70 := TOK.mk' (by kernel_rfl) (by kernel_rfl)
def ti80 : TI := ⟨.slice 88, 1, 24, .slice none 0 0⟩ -- []api.Change
theorem tok80 : TOK Tryz.prog 80 ti80 := TOK.mk' (by kernel_rfl) (by kernel_rfl)
def ti81 : TI := ⟨.slice 146, 1, 24, .slice none 0 0⟩ -- []api.Row
theorem tok81 : TOK Tryz.prog 81 ti81 := TOK.mk' (by kernel_rfl) (by kernel_rfl)
def ti82 : TI := ⟨.slice 90, 1, 24, .slice none 0 0⟩ -- []api.Update
theorem tok82 : TOK Tryz.prog 82 ti82 := TOK.mk' (by kernel_rfl) (by kernel_rfl)
def ti84 : TI := ⟨.struct [(0, 80, 1), (1, 81, 1), (2, 82, 1)], 3, 72, .agg #[.slice none 0 0, .slice none 0 0, .slice none 0 0]⟩ -- api.Effect
theorem tok84 : TOK Tryz.prog 84 ti84 := TOK.mk' (by kernel_rfl) (by kernel_rfl)
def ti86 : TI := ⟨.struct [(0, 3, 1), (1, 22, 1), (2, 84, 3)], 5, 104, .agg #[.int .i64 0, .slice none 0 0, .slice none 0 0, .slice none 0 0, .slice none 0 0]⟩ -- api.Action
theorem tok86 : TOK Tryz.prog 86 ti86 := TOK.mk' (by kernel_rfl) (by kernel_rfl)
def ti88 : TI := ⟨.struct [(0, 3, 1), (1, 3, 1)], 2, 16, .agg #[.int .i64 0, .int .i64 0]⟩ -- api.Change
theorem tok88 : TOK Tryz.prog 88 ti88 := TOK.mk' (by kernel_rfl) (by kernel_rfl)
def ti90 : TI := ⟨.struct [(0, 3, 1), (1, 3, 1), (2, 3, 1)], 3, 24, .agg #[.int .i64 0, .int .i64 0, .int .i64 0]⟩ -- api.Update
theorem tok90 : TOK Tryz.prog 90 ti90 := TOK.mk' (by kernel_rfl) (by kernel_rfl)
def ti92 : TI := ⟨.struct [(0, 3, 1), (1, 3, 1)], 2, 16, .agg #[.int .i64 0, .int .i64 0]⟩ -- api.Range
theorem tok92 : TOK Tryz.prog 92 ti92 := TOK.mk' (by kernel_rfl) (by kernel_rfl)
def ti94 : TI := ⟨.struct [(0, 9, 1), (1, 3, 1), (2, 22, 1), (3, 92, 2), (5, 3, 1)], 6, 72, .agg #[.string ⟨#[]⟩, .int .i64 0, .slice none 0 0, .int .i64 0, .int .i64 0, .int .i64 0]⟩ -- api.Table
theorem tok94 : TOK Tryz.prog 94 ti94 := TOK.mk' (by kernel_rfl) (by kernel_rfl)
def ti101 : TI := ⟨.ptr 159, 1, 8, .pointer none⟩ -- *delivery.Buffer
theorem tok101 : TOK Tryz.prog 101 ti101 := TOK.mk' (by kernel_rfl) (by kernel_rfl)
def ti103 : TI := ⟨.struct [(0, 61, 1), (1, 101, 1), (2, 45, 1)], 3, 24, .agg #[.pointer none, .pointer none, .int .i64 0]⟩ -- antientropy.Peer
theorem tok103 : TOK Tryz.prog 103 ti103 := TOK.mk' (by kernel_rfl) (by kernel_rfl)
def ti104 : TI := ⟨.func, 1, 8, .nilFunc⟩ -- func(api.Event) bool
theorem tok104 : TOK Tryz.prog 104 ti104 := TOK.mk' (by kernel_rfl) (by kernel_rfl)
def ti109 : TI := ⟨.func, 1, 8, .nilFunc⟩ -- func(int, int) int
theorem tok109 : TOK Tryz.prog 109 ti109 := TOK.mk' (by kernel_rfl) (by kernel_rfl)
def ti110 : TI := ⟨.func, 1, 8, .nilFunc⟩ -- func(api.Event, api.Event) int
theorem tok110 : TOK Tryz.prog 110 ti110 := TOK.mk' (by kernel_rfl) (by kernel_rfl)
def ti112 : TI := ⟨.func, 1, 8, .nilFunc⟩ -- func(int) bool
theorem tok112 : TOK Tryz.prog 112 ti112 := TOK.mk' (by kernel_rfl) (by kernel_rfl)
def ti113 : TI := ⟨.slice 171, 1, 24, .slice none 0 0⟩ -- []api.Span
theorem tok113 : TOK Tryz.prog 113 ti113 := TOK.mk' (by kernel_rfl) (by kernel_rfl)
def ti122 : TI := ⟨.func, 1, 8, .nilFunc⟩ -- func([]event.written) []int
theorem tok122 : TOK Tryz.prog 122 ti122 := TOK.mk' (by kernel_rfl) (by kernel_rfl)
def ti123 : TI := ⟨.map 3 122, 1, 8, .map none⟩ -- map[int]func([]event.written) []int
theorem tok123 : TOK Tryz.prog 123 ti123 := TOK.mk' (by kernel_rfl) (by kernel_rfl)
def ti125 : TI := ⟨.slice 177, 1, 24, .slice none 0 0⟩ -- []event.written
theorem tok125 : TOK Tryz.prog 125 ti125 := TOK.mk' (by kernel_rfl) (by kernel_rfl)
def ti127 : TI := ⟨.slice 194, 1, 24, .slice none 0 0⟩ -- []api.Merged
theorem tok127 : TOK Tryz.prog 127 ti127 := TOK.mk' (by kernel_rfl) (by kernel_rfl)
def ti128 : TI := ⟨.slice 56, 1, 24, .slice none 0 0⟩ -- [][][]int
theorem tok128 : TOK Tryz.prog 128 ti128 := TOK.mk' (by kernel_rfl) (by kernel_rfl)
def ti130 : TI := ⟨.struct [(0, 22, 1), (1, 3, 1), (2, 22, 1), (3, 127, 1), (4, 56, 1), (5, 128, 1), (6, 22, 1)], 7, 152, .agg #[.slice none 0 0, .int .i64 0, .slice none 0 0, .slice none 0 0, .slice none 0 0, .slice none 0 0, .slice none 0 0]⟩ -- api.Base
theorem tok130 : TOK Tryz.prog 130 ti130 := TOK.mk' (by kernel_rfl) (by kernel_rfl)
def ti132 : TI := ⟨.struct [(0, 22, 1), (1, 3, 1), (2, 22, 1), (3, 127, 1), (4, 22, 1)], 5, 104, .agg #[.slice none 0 0, .int .i64 0, .slice none 0 0, .slice none 0 0, .slice none 0 0]⟩ -- store.now
theorem tok132 : TOK Tryz.prog 132 ti132 := TOK.mk' (by kernel_rfl) (by kernel_rfl)
def ti134 : TI := ⟨.struct [(0, 30, 7), (7, 130, 7), (14, 31, 1), (15, 132, 5)], 20, 448, .agg #[.slice none 0 0, .slice none 0 0, .slice none 0 0, .slice none 0 0, .slice none 0 0, .slice none 0 0, .slice none 0 0, .slice none 0 0, .int .i64 0, .slice none 0 0, .slice none 0 0, .slice none 0 0, .slice none 0 0, .slice none 0 0, .slice none 0 0, .slice none 0 0, .int .i64 0, .slice none 0 0, .slice none 0 0, .slice none 0 0]⟩ -- store.Store
theorem tok134 : TOK Tryz.prog 134 ti134 := TOK.mk' (by kernel_rfl) (by kernel_rfl)
def ti143 : TI := ⟨.struct [(0, 3, 1), (1, 3, 1)], 2, 16, .agg #[.int .i64 0, .int .i64 0]⟩ -- api.Term
theorem tok143 : TOK Tryz.prog 143 ti143 := TOK.mk' (by kernel_rfl) (by kernel_rfl)
def ti144 : TI := ⟨.slice 143, 1, 24, .slice none 0 0⟩ -- []api.Term
theorem tok144 : TOK Tryz.prog 144 ti144 := TOK.mk' (by kernel_rfl) (by kernel_rfl)
def ti146 : TI := ⟨.struct [(0, 144, 1), (1, 3, 1)], 2, 32, .agg #[.slice none 0 0, .int .i64 0]⟩ -- api.Row
theorem tok146 : TOK Tryz.prog 146 ti146 := TOK.mk' (by kernel_rfl) (by kernel_rfl)
def ti148 : TI := ⟨.struct [(0, 3, 1), (1, 3, 1), (2, 146, 2), (4, 3, 1), (5, 3, 1)], 6, 64, .agg #[.int .i64 0, .int .i64 0, .slice none 0 0, .int .i64 0, .int .i64 0, .int .i64 0]⟩ -- api.Constraint
theorem tok148 : TOK Tryz.prog 148 ti148 := TOK.mk' (by kernel_rfl) (by kernel_rfl)
def ti150 : TI := ⟨.struct [(0, 9, 1), (1, 4, 1), (2, 22, 1)], 3, 48, .agg #[.string ⟨#[]⟩, .bool false, .slice none 0 0]⟩ -- api.Operation
theorem tok150 : TOK Tryz.prog 150 ti150 := TOK.mk' (by kernel_rfl) (by kernel_rfl)
def ti152 : TI := ⟨.map 70 40, 1, 8, .map none⟩ -- map[api.Dot]api.Event
theorem tok152 : TOK Tryz.prog 152 ti152 := TOK.mk' (by kernel_rfl) (by kernel_rfl)
def ti159 : TI := ⟨.struct [(0, 22, 1), (1, 152, 1)], 2, 32, .agg #[.slice none 0 0, .map none]⟩ -- delivery.Buffer
theorem tok159 : TOK Tryz.prog 159 ti159 := TOK.mk' (by kernel_rfl) (by kernel_rfl)
def ti164 : TI := ⟨.struct [(0, 61, 1), (1, 40, 13), (14, 132, 5)], 19, 232, .agg #[.pointer none, .int .i64 0, .int .i64 0, .int .i64 0, .slice none 0 0, .int .i64 0, .int .i64 0, .int .i64 0, .int .i64 0, .int .i64 0, .int .i64 0, .int .i64 0, .int .i64 0, .int .i64 0, .slice none 0 0, .int .i64 0, .slice none 0 0, .slice none 0 0, .slice none 0 0]⟩ -- store.step
theorem tok164 : TOK Tryz.prog 164 ti164 := TOK.mk' (by kernel_rfl) (by kernel_rfl)
def ti165 : TI := ⟨.func, 1, 8, .nilFunc⟩ -- func() api.Errno
theorem tok165 : TOK Tryz.prog 165 ti165 := TOK.mk' (by kernel_rfl) (by kernel_rfl)
def ti166 : TI := ⟨.slice 165, 1, 24, .slice none 0 0⟩ -- []func() api.Errno
theorem tok166 : TOK Tryz.prog 166 ti166 := TOK.mk' (by kernel_rfl) (by kernel_rfl)
def ti169 : TI := ⟨.map 70 4, 1, 8, .map none⟩ -- map[api.Dot]bool
theorem tok169 : TOK Tryz.prog 169 ti169 := TOK.mk' (by kernel_rfl) (by kernel_rfl)
def ti171 : TI := ⟨.struct [(0, 3, 1), (1, 3, 1), (2, 3, 1)], 3, 24, .agg #[.int .i64 0, .int .i64 0, .int .i64 0]⟩ -- api.Span
theorem tok171 : TOK Tryz.prog 171 ti171 := TOK.mk' (by kernel_rfl) (by kernel_rfl)
def ti173 : TI := ⟨.func, 1, 8, .nilFunc⟩ -- func(api.Span) bool
theorem tok173 : TOK Tryz.prog 173 ti173 := TOK.mk' (by kernel_rfl) (by kernel_rfl)
def ti177 : TI := ⟨.struct [(0, 40, 13), (13, 90, 3)], 16, 144, .agg #[.int .i64 0, .int .i64 0, .int .i64 0, .slice none 0 0, .int .i64 0, .int .i64 0, .int .i64 0, .int .i64 0, .int .i64 0, .int .i64 0, .int .i64 0, .int .i64 0, .int .i64 0, .int .i64 0, .int .i64 0, .int .i64 0]⟩ -- event.written
theorem tok177 : TOK Tryz.prog 177 ti177 := TOK.mk' (by kernel_rfl) (by kernel_rfl)
def ti179 : TI := ⟨.func, 1, 8, .nilFunc⟩ -- func(event.written) bool
theorem tok179 : TOK Tryz.prog 179 ti179 := TOK.mk' (by kernel_rfl) (by kernel_rfl)
def ti180 : TI := ⟨.func, 1, 8, .nilFunc⟩ -- func([]event.written, int) []event.written
theorem tok180 : TOK Tryz.prog 180 ti180 := TOK.mk' (by kernel_rfl) (by kernel_rfl)
def ti185 : TI := ⟨.func, 1, 8, .nilFunc⟩ -- func(event.written, event.written) int
theorem tok185 : TOK Tryz.prog 185 ti185 := TOK.mk' (by kernel_rfl) (by kernel_rfl)
def ti192 : TI := ⟨.slice 205, 1, 24, .slice none 0 0⟩ -- []api.Mark
theorem tok192 : TOK Tryz.prog 192 ti192 := TOK.mk' (by kernel_rfl) (by kernel_rfl)
def ti194 : TI := ⟨.struct [(0, 4, 1), (1, 4, 1), (2, 192, 1)], 3, 32, .agg #[.bool false, .bool false, .slice none 0 0]⟩ -- api.Merged
theorem tok194 : TOK Tryz.prog 194 ti194 := TOK.mk' (by kernel_rfl) (by kernel_rfl)
def ti195 : TI := ⟨.map 202 199, 1, 8, .map none⟩ -- map[merge.rule]func(merge.change) api.Errno
theorem tok195 : TOK Tryz.prog 195 ti195 := TOK.mk' (by kernel_rfl) (by kernel_rfl)
def ti197 : TI := ⟨.map 3 90, 1, 8, .map none⟩ -- map[int]api.Update
theorem tok197 : TOK Tryz.prog 197 ti197 := TOK.mk' (by kernel_rfl) (by kernel_rfl)
def ti199 : TI := ⟨.func, 1, 8, .nilFunc⟩ -- func(merge.change) api.Errno
theorem tok199 : TOK Tryz.prog 199 ti199 := TOK.mk' (by kernel_rfl) (by kernel_rfl)
def ti202 : TI := ⟨.struct [(0, 3, 1), (1, 3, 1)], 2, 16, .agg #[.int .i64 0, .int .i64 0]⟩ -- merge.rule
theorem tok202 : TOK Tryz.prog 202 ti202 := TOK.mk' (by kernel_rfl) (by kernel_rfl)
def ti203 : TI := ⟨.ptr 194, 1, 8, .pointer none⟩ -- *api.Merged
theorem tok203 : TOK Tryz.prog 203 ti203 := TOK.mk' (by kernel_rfl) (by kernel_rfl)
def ti205 : TI := ⟨.struct [(0, 3, 1), (1, 3, 1), (2, 3, 1), (3, 3, 1)], 4, 32, .agg #[.int .i64 0, .int .i64 0, .int .i64 0, .int .i64 0]⟩ -- api.Mark
theorem tok205 : TOK Tryz.prog 205 ti205 := TOK.mk' (by kernel_rfl) (by kernel_rfl)
def ti207 : TI := ⟨.struct [(0, 203, 1), (1, 40, 13), (14, 205, 4)], 18, 160, .agg #[.pointer none, .int .i64 0, .int .i64 0, .int .i64 0, .slice none 0 0, .int .i64 0, .int .i64 0, .int .i64 0, .int .i64 0, .int .i64 0, .int .i64 0, .int .i64 0, .int .i64 0, .int .i64 0, .int .i64 0, .int .i64 0, .int .i64 0, .int .i64 0]⟩ -- merge.change
theorem tok207 : TOK Tryz.prog 207 ti207 := TOK.mk' (by kernel_rfl) (by kernel_rfl)
def ti215 : TI := ⟨.func, 1, 8, .nilFunc⟩ -- func(*api.Event) bool
theorem tok215 : TOK Tryz.prog 215 ti215 := TOK.mk' (by kernel_rfl) (by kernel_rfl)
def ti217 : TI := ⟨.map 3 215, 1, 8, .map none⟩ -- map[int]func(*api.Event) bool
theorem tok217 : TOK Tryz.prog 217 ti217 := TOK.mk' (by kernel_rfl) (by kernel_rfl)
def ti219 : TI := ⟨.ptr 40, 1, 8, .pointer none⟩ -- *api.Event
theorem tok219 : TOK Tryz.prog 219 ti219 := TOK.mk' (by kernel_rfl) (by kernel_rfl)
def ti230 : TI := ⟨.int .u64, 1, 8, .int .u64 0⟩ -- uint
theorem tok230 : TOK Tryz.prog 230 ti230 := TOK.mk' (by kernel_rfl) (by kernel_rfl)
def ti233 : TI := ⟨.func, 1, 8, .nilFunc⟩ -- func(api.Table, api.Merged) bool
theorem tok233 : TOK Tryz.prog 233 ti233 := TOK.mk' (by kernel_rfl) (by kernel_rfl)
def ti239 : TI := ⟨.slice 92, 1, 24, .slice none 0 0⟩ -- []api.Range
theorem tok239 : TOK Tryz.prog 239 ti239 := TOK.mk' (by kernel_rfl) (by kernel_rfl)
def ti246 : TI := ⟨.struct [(0, 3, 1), (1, 3, 1), (2, 3, 1)], 3, 24, .agg #[.int .i64 0, .int .i64 0, .int .i64 0]⟩ -- api.Hide
theorem tok246 : TOK Tryz.prog 246 ti246 := TOK.mk' (by kernel_rfl) (by kernel_rfl)
def ti250 : TI := ⟨.int .i64, 1, 8, .int .i64 0⟩ -- slices.sortedHint
theorem tok250 : TOK Tryz.prog 250 ti250 := TOK.mk' (by kernel_rfl) (by kernel_rfl)
def ti257 : TI := ⟨.int .u32, 1, 4, .int .u32 0⟩ -- uint32
theorem tok257 : TOK Tryz.prog 257 ti257 := TOK.mk' (by kernel_rfl) (by kernel_rfl)
def ti259 : TI := ⟨.int .u64, 1, 8, .int .u64 0⟩ -- uint64
theorem tok259 : TOK Tryz.prog 259 ti259 := TOK.mk' (by kernel_rfl) (by kernel_rfl)
def ti262 : TI := ⟨.func, 1, 8, .nilFunc⟩ -- func(api.Mark, api.Mark) int
theorem tok262 : TOK Tryz.prog 262 ti262 := TOK.mk' (by kernel_rfl) (by kernel_rfl)
def ti264 : TI := ⟨.func, 1, 8, .nilFunc⟩ -- func(api.Mark) bool
theorem tok264 : TOK Tryz.prog 264 ti264 := TOK.mk' (by kernel_rfl) (by kernel_rfl)
def ti272 : TI := ⟨.int .u64, 1, 8, .int .u64 0⟩ -- slices.xorshift
theorem tok272 : TOK Tryz.prog 272 ti272 := TOK.mk' (by kernel_rfl) (by kernel_rfl)
def ti276 : TI := ⟨.ptr 3, 1, 8, .pointer none⟩ -- *int
theorem tok276 : TOK Tryz.prog 276 ti276 := TOK.mk' (by kernel_rfl) (by kernel_rfl)
def ti282 : TI := ⟨.slice 286, 1, 24, .slice none 0 0⟩ -- []api.Token
theorem tok282 : TOK Tryz.prog 282 ti282 := TOK.mk' (by kernel_rfl) (by kernel_rfl)
def ti286 : TI := ⟨.struct [(0, 3, 1), (1, 3, 1), (2, 3, 1), (3, 3, 1)], 4, 32, .agg #[.int .i64 0, .int .i64 0, .int .i64 0, .int .i64 0]⟩ -- api.Token
theorem tok286 : TOK Tryz.prog 286 ti286 := TOK.mk' (by kernel_rfl) (by kernel_rfl)
def tyTab : List (Nat × TI) := [(3, ti3), (4, ti4), (5, ti5), (9, ti9), (22, ti22), (23, ti23), (24, ti24), (25, ti25), (26, ti26), (27, ti27), (28, ti28), (30, ti30), (31, ti31), (36, ti36), (38, ti38), (40, ti40), (43, ti43), (45, ti45), (56, ti56), (59, ti59), (61, ti61), (70, ti70), (80, ti80), (81, ti81), (82, ti82), (84, ti84), (86, ti86), (88, ti88), (90, ti90), (92, ti92), (94, ti94), (101, ti101), (103, ti103), (104, ti104), (109, ti109), (110, ti110), (112, ti112), (113, ti113), (122, ti122), (123, ti123), (125, ti125), (127, ti127), (128, ti128), (130, ti130), (132, ti132), (134, ti134), (143, ti143), (144, ti144), (146, ti146), (148, ti148), (150, ti150), (152, ti152), (159, ti159), (164, ti164), (165, ti165), (166, ti166), (169, ti169), (171, ti171), (173, ti173), (177, ti177), (179, ti179), (180, ti180), (185, ti185), (192, ti192), (194, ti194), (195, ti195), (197, ti197), (199, ti199), (202, ti202), (203, ti203), (205, ti205), (207, ti207), (215, ti215), (217, ti217), (219, ti219), (230, ti230), (233, ti233), (239, ti239), (246, ti246), (250, ti250), (257, ti257), (259, ti259), (262, ti262), (264, ti264), (272, ti272), (276, ti276), (282, ti282), (286, ti286)]
theorem tyTab_ok : ∀ p ∈ tyTab, TOK Tryz.prog p.1 p.2 := by
 unfold tyTab
 repeat (first|exact List.forall_mem_nil _|refine List.forall_mem_cons.2 ⟨by first|exact tok3|exact tok4|exact tok5|exact tok9|exact tok22|exact tok23|exact tok24|exact tok25|exact tok26|exact tok27|exact tok28|exact tok30|exact tok31|exact tok36|exact tok38|exact tok40|exact tok43|exact tok45|exact tok56|exact tok59|exact tok61|exact tok70|exact tok80|exact tok81|exact tok82|exact tok84|exact tok86|exact tok88|exact tok90|exact tok92|exact tok94|exact tok101|exact tok103|exact tok104|exact tok109|exact tok110|exact tok112|exact tok113|exact tok122|exact tok123|exact tok125|exact tok127|exact tok128|exact tok130|exact tok132|exact tok134|exact tok143|exact tok144|exact tok146|exact tok148|exact tok150|exact tok152|exact tok159|exact tok164|exact tok165|exact tok166|exact tok169|exact tok171|exact tok173|exact tok177|exact tok179|exact tok180|exact tok185|exact tok192|exact tok194|exact tok195|exact tok197|exact tok199|exact tok202|exact tok203|exact tok205|exact tok207|exact tok215|exact tok217|exact tok219|exact tok230|exact tok233|exact tok239|exact tok246|exact tok250|exact tok257|exact tok259|exact tok262|exact tok264|exact tok272|exact tok276|exact tok282|exact tok286, ?_⟩)
def tt : Nat → Option TI := lookT tyTab
def en : Nat → Bool := fun f => Nat.ble 3 f && Nat.ble f 236 && !Nat.beq f 167 && !Nat.beq f 219
theorem pg : PgOK Tryz.prog tt en :=
 ⟨lookT_ok tyTab_ok, fun f h => entB_ok (by
  have k := List.all_eq_true.1 (show (List.range 237).all (fun f => !(Nat.ble 3 f && Nat.ble f 236 && !Nat.beq f 167 && !Nat.beq f 219) || entB Tryz.prog f) = true by kernel_rfl) f (List.mem_range.2 (by simp [en] at h;omega))
  have h2 : (Nat.ble 3 f && Nat.ble f 236 && !Nat.beq f 167 && !Nat.beq f 219) = true := h
  rw [h2] at k;simpa using k), by kernel_rfl⟩
abbrev ordZ : Nat → Ord × (Nat → Cls) := fun _ => (.done, clOf [])
abbrev ord5 := ordZ
def ord6 : Nat → Ord × (Nat → Cls) := fun id => bif Nat.beq id 6 then (.one 0 (.one 1 (.one 2 (.one 3 (.one 4 (.one 5 (.one 6 (.one 7 (.one 8 .done)))))))), clOf [.read, .pure, .pure, .pure, .read, .pure, .read, .loud, .pure]) else (.done, clOf [])
abbrev ord7 := ordZ
abbrev ord8 := ordZ
abbrev ord9 := ordZ
def ord10 : Nat → Ord × (Nat → Cls) := fun id => bif Nat.beq id 7 then (.one 0 (.one 1 (.one 2 (.one 3 (.one 4 (.one 5 (.one 6 .done)))))), clOf [.pure, .pure, .pure, .read, .read, .loud, .pure]) else bif Nat.beq id 9 then (.one 0 (.one 1 (.one 2 (.one 3 (.one 4 (.one 5 (.one 6 (.one 7 (.one 8 (.one 9 (.one 10 .done)))))))))), clOf [.pure, .pure, .pure, .read, .read, .loud, .pure, .pure, .pure, .pure, .pure]) else bif Nat.beq id 13 then (.one 0 (.one 1 (.one 2 (.one 3 (.one 4 (.one 5 (.one 6 .done)))))), clOf [.pure, .pure, .pure, .read, .read, .loud, .pure]) else (.done, clOf [])
abbrev ord11 := ordZ
abbrev ord12 := ordZ
abbrev ord15 := ordZ
def ord16 : Nat → Ord × (Nat → Cls) := fun id => bif Nat.beq id 18 then (.one 0 (.one 1 (.one 2 (.one 3 (.one 4 (.one 5 (.one 6 (.one 7 (.one 8 (.one 9 .done))))))))), clOf [.pure, .pure, .read, .pure, .read, .pure, .read, .pure, .pure, .loud]) else (.done, clOf [])
def ord17 : Nat → Ord × (Nat → Cls) := fun id => bif Nat.beq id 8 then (.one 0 (.one 2 (.one 3 (.one 1 (.one 4 (.one 5 .done))))), clOf [.read, .ext, .pure, .read, .read, .pure]) else (.done, clOf [])
def ord18 : Nat → Ord × (Nat → Cls) := fun id => bif Nat.beq id 6 then (.one 0 (.one 1 (.one 2 (.one 3 (.one 4 (.one 5 (.one 6 (.one 7 (.one 8 .done)))))))), clOf [.pure, .pure, .pure, .read, .pure, .pure, .pure, .read, .pure]) else (.done, clOf [])
abbrev ord19 := ordZ
abbrev ord20 := ordZ
abbrev ord21 := ordZ
def ord22 : Nat → Ord × (Nat → Cls) := fun id => bif Nat.beq id 6 then (.one 0 (.one 1 (.one 2 (.one 3 (.one 4 (.one 5 (.one 6 (.one 7 (.one 8 (.one 9 .done))))))))), clOf [.pure, .pure, .pure, .read, .pure, .pure, .pure, .read, .loud, .pure]) else (.done, clOf [])
def ord23 : Nat → Ord × (Nat → Cls) := fun id => bif Nat.beq id 1 then (.one 0 (.one 1 (.one 2 (.one 3 (.one 4 (.one 5 (.one 6 (.one 7 (.one 8 (.one 9 (.one 10 (.one 11 (.one 12 (.one 13 (.one 14 .done)))))))))))))), clOf [.pure, .pure, .pure, .read, .pure, .pure, .pure, .pure, .read, .loud, .pure, .pure, .pure, .pure, .pure]) else (.done, clOf [])
abbrev ord25 := ordZ
def ord26 : Nat → Ord × (Nat → Cls) := fun id => bif Nat.beq id 1 then (.one 0 (.one 1 (.one 2 (.one 3 (.one 4 (.one 5 (.one 6 (.one 7 (.one 8 (.one 9 (.one 10 (.one 11 (.one 12 (.one 13 (.one 14 (.one 15 (.one 16 (.one 17 (.one 18 (.one 19 (.one 20 (.one 21 (.one 22 (.one 23 (.one 24 (.one 25 (.one 26 (.one 27 (.one 28 (.one 29 .done))))))))))))))))))))))))))))), clOf [.pure, .loud, .pure, .pure, .read, .pure, .pure, .pure, .pure, .read, .pure, .pure, .pure, .pure, .pure, .pure, .read, .pure, .pure, .pure, .pure, .read, .pure, .pure, .read, .pure, .read, .pure, .pure, .pure]) else (.done, clOf [])
abbrev ord27 := ordZ
def ord28 : Nat → Ord × (Nat → Cls) := fun id => bif Nat.beq id 4 then (.one 0 (.one 1 (.one 2 (.one 3 (.one 4 (.one 5 (.one 6 (.one 7 (.one 8 .done)))))))), clOf [.pure, .pure, .pure, .read, .pure, .pure, .pure, .read, .pure]) else (.done, clOf [])
def ord29 : Nat → Ord × (Nat → Cls) := fun id => bif Nat.beq id 13 then (.one 0 (.one 1 (.one 2 (.one 3 (.one 4 (.one 5 (.one 6 (.one 7 (.one 8 (.one 9 (.one 10 (.one 11 (.one 12 (.one 13 .done))))))))))))), clOf [.pure, .pure, .pure, .pure, .pure, .read, .pure, .pure, .pure, .pure, .read, .pure, .pure, .loud]) else (.done, clOf [])
def ord30 : Nat → Ord × (Nat → Cls) := fun id => bif Nat.beq id 16 then (.one 0 (.one 1 (.one 2 (.one 3 (.one 4 (.one 5 (.one 6 (.one 7 (.one 8 (.one 9 (.one 10 (.one 11 (.one 12 .done)))))))))))), clOf [.pure, .pure, .pure, .pure, .read, .pure, .read, .pure, .pure, .pure, .read, .pure, .pure]) else bif Nat.beq id 19 then (.one 0 (.one 1 (.one 2 (.one 3 (.one 4 (.one 5 (.one 6 (.one 7 (.one 8 (.one 9 (.one 10 .done)))))))))), clOf [.pure, .read, .pure, .read, .pure, .read, .pure, .read, .pure, .pure, .loud]) else bif Nat.beq id 21 then (.one 0 (.one 1 (.one 2 (.one 3 (.one 4 (.one 5 (.one 6 (.one 7 (.one 8 (.one 9 (.one 10 (.one 11 (.one 12 .done)))))))))))), clOf [.pure, .pure, .pure, .read, .pure, .read, .read, .loud, .pure, .pure, .pure, .pure, .loud]) else bif Nat.beq id 30 then (.one 0 (.one 1 (.one 2 (.one 3 (.one 4 (.one 5 (.one 6 (.one 7 (.one 8 (.one 9 (.one 10 .done)))))))))), clOf [.pure, .pure, .pure, .read, .pure, .read, .loud, .pure, .pure, .pure, .pure]) else bif Nat.beq id 32 then (.one 0 (.one 1 (.one 2 (.one 3 (.one 4 (.one 5 (.one 6 (.one 7 (.one 8 (.one 9 (.one 10 (.one 11 (.one 12 (.one 13 (.one 14 (.one 15 (.one 16 .done)))))))))))))))), clOf [.pure, .pure, .pure, .read, .pure, .pure, .ext, .pure, .pure, .loud, .pure, .pure, .loud, .pure, .pure, .pure, .loud]) else (.done, clOf [])
abbrev ord31 := ordZ
def ord32 : Nat → Ord × (Nat → Cls) := fun id => bif Nat.beq id 11 then (.one 0 (.one 1 (.one 2 (.one 3 (.one 4 (.one 5 (.one 6 (.one 7 (.one 8 (.one 9 (.one 10 (.one 11 (.one 12 (.one 13 (.one 14 (.one 15 (.one 16 (.one 17 (.one 18 (.one 19 (.one 20 (.one 21 (.one 22 (.one 23 (.one 24 (.one 25 (.one 26 (.one 27 (.one 28 (.one 29 (.one 30 (.one 31 (.one 32 (.one 33 (.one 34 (.one 35 (.one 36 (.one 37 (.one 38 (.one 39 (.one 40 (.one 41 (.one 42 .done)))))))))))))))))))))))))))))))))))))))))), clOf [.pure, .read, .pure, .pure, .pure, .read, .pure, .pure, .pure, .pure, .read, .pure, .pure, .pure, .read, .pure, .pure, .pure, .pure, .read, .pure, .pure, .pure, .read, .pure, .pure, .pure, .pure, .read, .pure, .pure, .pure, .pure, .read, .pure, .read, .pure, .pure, .pure, .pure, .read, .pure, .pure]) else bif Nat.beq id 13 then (.one 0 (.one 2 (.one 1 (.one 3 (.one 4 (.one 5 (.one 6 .done)))))), clOf [.read, .ext, .read, .loud, .pure, .pure, .pure]) else (.done, clOf [])
def ord33 : Nat → Ord × (Nat → Cls) := fun id => bif Nat.beq id 8 then (.one 0 (.one 1 (.one 2 (.one 3 (.one 4 (.one 5 (.one 6 (.one 7 (.one 8 (.one 9 (.one 10 (.one 11 (.one 12 (.one 13 (.one 14 (.one 15 (.one 16 .done)))))))))))))))), clOf [.pure, .pure, .read, .loud, .pure, .pure, .pure, .pure, .read, .pure, .pure, .pure, .pure, .read, .pure, .pure, .pure]) else bif Nat.beq id 10 then (.one 0 (.one 1 (.one 3 (.one 2 (.one 4 .done)))), clOf [.pure, .read, .ext, .read, .loud]) else (.done, clOf [])
def ord34 : Nat → Ord × (Nat → Cls) := fun id => bif Nat.beq id 6 then (.one 0 (.one 1 (.one 2 (.one 3 (.one 4 (.one 5 (.one 6 (.one 7 (.one 8 (.one 9 .done))))))))), clOf [.pure, .read, .pure, .read, .pure, .pure, .read, .loud, .pure, .pure]) else (.done, clOf [])
abbrev ord35 := ordZ
def ord36 : Nat → Ord × (Nat → Cls) := fun id => bif Nat.beq id 6 then (.one 0 (.one 1 (.one 2 (.one 3 (.one 4 (.one 5 (.one 6 (.one 7 (.one 8 (.one 9 (.one 10 (.one 11 (.one 12 (.one 13 (.one 14 (.one 15 (.one 16 (.one 17 (.one 18 .done)))))))))))))))))), clOf [.pure, .read, .pure, .read, .pure, .pure, .read, .loud, .pure, .pure, .pure, .read, .pure, .pure, .pure, .read, .loud, .pure, .pure]) else (.done, clOf [])
def ord37 : Nat → Ord × (Nat → Cls) := fun id => bif Nat.beq id 9 then (.one 0 (.one 1 (.one 2 (.one 3 (.one 4 (.one 5 (.one 6 (.one 7 (.one 8 (.one 9 (.one 10 (.one 11 (.one 12 .done)))))))))))), clOf [.pure, .pure, .read, .pure, .pure, .read, .pure, .read, .pure, .read, .pure, .pure, .loud]) else (.done, clOf [])
abbrev ord38 := ordZ
def ord39 : Nat → Ord × (Nat → Cls) := fun id => bif Nat.beq id 3 then (.one 0 (.one 1 (.one 3 (.one 4 (.one 2 (.one 5 (.one 6 (.one 7 (.one 8 (.one 9 .done))))))))), clOf [.read, .pure, .ext, .pure, .read, .ext, .pure, .loud, .pure, .pure]) else (.done, clOf [])
abbrev ord40 := ordZ
def ord41 : Nat → Ord × (Nat → Cls) := fun id => bif Nat.beq id 1 then (.one 0 (.one 1 (.one 2 (.one 3 (.one 4 (.one 5 (.one 6 (.one 7 (.one 8 (.one 9 (.one 10 (.one 11 (.one 12 .done)))))))))))), clOf [.pure, .pure, .pure, .read, .pure, .pure, .pure, .pure, .read, .pure, .read, .loud, .pure]) else (.done, clOf [])
def ord42 : Nat → Ord × (Nat → Cls) := fun id => bif Nat.beq id 1 then (.one 0 (.one 1 (.one 2 (.one 3 (.one 4 (.alt 5 (.one 6 (.one 7 (.one 8 (.one 9 (.one 10 (.one 11 (.one 12 .done))))))) (.alt 10 (.one 5 (.one 6 (.one 7 (.one 8 (.one 9 (.one 11 (.one 12 .done))))))) (.none))))))), clOf [.pure, .pure, .pure, .read, .read, .ext, .read, .pure, .pure, .pure, .ext, .loud, .pure]) else bif Nat.beq id 2 then (.one 0 (.one 1 (.one 2 (.one 3 (.one 4 (.one 5 (.one 6 (.one 7 (.one 8 (.one 9 (.one 10 (.one 11 (.one 12 (.one 13 (.one 14 .done)))))))))))))), clOf [.read, .loud, .pure, .pure, .pure, .read, .pure, .pure, .pure, .pure, .read, .pure, .pure, .pure, .pure]) else bif Nat.beq id 4 then (.one 0 (.one 1 (.one 2 (.one 3 (.one 4 (.one 5 (.one 6 (.one 7 (.one 8 (.one 9 (.one 10 .done)))))))))), clOf [.pure, .pure, .pure, .pure, .pure, .read, .read, .ext, .loud, .pure, .pure]) else bif Nat.beq id 11 then (.one 0 (.one 1 (.one 2 (.one 3 (.one 4 (.one 6 (.one 5 (.one 7 (.one 8 .done)))))))), clOf [.pure, .pure, .pure, .read, .read, .ext, .read, .ext, .loud]) else (.done, clOf [])
def ord43 : Nat → Ord × (Nat → Cls) := fun id => bif Nat.beq id 3 then (.one 0 (.one 1 (.one 2 (.one 3 (.one 4 (.one 5 (.one 6 (.one 7 (.one 8 .done)))))))), clOf [.pure, .pure, .pure, .pure, .read, .read, .ext, .loud, .pure]) else bif Nat.beq id 5 then (.one 0 (.one 1 (.one 2 (.one 3 (.one 4 (.one 5 (.one 6 (.one 7 (.one 8 (.one 9 (.one 10 .done)))))))))), clOf [.pure, .pure, .pure, .pure, .read, .pure, .read, .loud, .pure, .pure, .pure]) else bif Nat.beq id 7 then (.one 0 (.one 1 (.one 2 (.one 3 (.one 4 (.one 5 (.one 6 (.one 7 (.one 8 .done)))))))), clOf [.pure, .read, .pure, .pure, .pure, .read, .pure, .ext, .pure]) else bif Nat.beq id 16 then (.one 0 (.one 1 (.one 2 (.one 3 (.one 4 (.one 5 (.one 6 (.one 7 (.one 8 (.one 9 (.one 10 (.one 11 .done))))))))))), clOf [.pure, .pure, .pure, .pure, .read, .read, .ext, .ext, .loud, .pure, .pure, .loud]) else (.done, clOf [])
abbrev ord44 := ordZ
abbrev ord45 := ordZ
def ord46 : Nat → Ord × (Nat → Cls) := fun id => bif Nat.beq id 1 then (.one 0 (.one 1 (.one 2 (.one 3 (.one 5 (.one 6 (.one 7 (.one 8 (.one 10 (.one 11 (.one 12 (.one 13 (.one 4 (.one 9 (.one 14 (.one 15 (.one 16 (.one 17 .done))))))))))))))))), clOf [.pure, .read, .pure, .read, .ext, .pure, .read, .pure, .read, .ext, .pure, .read, .pure, .read, .loud, .ext, .loud, .pure]) else (.done, clOf [])
abbrev ord47 := ordZ
abbrev ord48 := ordZ
abbrev ord49 := ordZ
abbrev ord50 := ordZ
abbrev ord51 := ordZ
abbrev ord52 := ordZ
def ord53 : Nat → Ord × (Nat → Cls) := fun id => bif Nat.beq id 19 then (.one 0 (.one 1 (.one 2 (.one 3 (.one 4 (.one 5 (.one 6 (.one 7 (.one 8 (.one 9 (.one 10 (.one 11 (.one 12 (.one 13 (.one 14 (.one 15 (.one 16 (.one 17 (.one 18 (.one 19 (.one 20 (.one 21 (.one 22 (.one 23 .done))))))))))))))))))))))), clOf [.pure, .pure, .pure, .pure, .pure, .pure, .pure, .pure, .read, .pure, .read, .pure, .pure, .pure, .pure, .pure, .pure, .pure, .pure, .read, .pure, .pure, .pure, .pure]) else (.done, clOf [])
abbrev ord54 := ordZ
abbrev ord55 := ordZ
abbrev ord56 := ordZ
abbrev ord57 := ordZ
abbrev ord58 := ordZ
abbrev ord59 := ordZ
abbrev ord60 := ordZ
abbrev ord61 := ordZ
def ord62 : Nat → Ord × (Nat → Cls) := fun id => bif Nat.beq id 6 then (.one 0 (.one 1 (.one 2 (.one 3 (.one 4 (.one 5 (.one 6 (.one 7 (.one 8 .done)))))))), clOf [.pure, .pure, .pure, .read, .pure, .pure, .pure, .read, .pure]) else (.done, clOf [])
def ord63 : Nat → Ord × (Nat → Cls) := fun id => bif Nat.beq id 7 then (.one 0 (.one 1 (.one 2 (.one 3 (.one 4 (.one 5 (.one 6 (.one 7 (.one 8 (.one 9 .done))))))))), clOf [.pure, .read, .pure, .pure, .pure, .read, .loud, .ext, .loud, .pure]) else (.done, clOf [])
abbrev ord64 := ordZ
abbrev ord65 := ordZ
abbrev ord66 := ordZ
def ord67 : Nat → Ord × (Nat → Cls) := fun id => bif Nat.beq id 1 then (.one 0 (.one 1 (.one 2 (.one 3 (.one 4 (.one 5 (.one 6 (.one 7 (.one 8 (.one 9 (.one 10 (.one 11 (.one 12 (.one 13 (.one 14 (.one 15 (.one 16 (.one 17 (.one 18 (.one 19 (.one 20 (.one 21 (.one 22 (.one 23 (.one 24 (.one 25 (.one 26 (.one 27 (.one 28 (.one 29 (.one 30 (.one 31 (.one 32 (.one 33 (.one 34 (.one 35 (.one 36 (.one 37 (.one 38 (.one 39 (.one 40 (.one 41 (.one 42 (.one 43 .done))))))))))))))))))))))))))))))))))))))))))), clOf [.pure, .read, .loud, .pure, .pure, .pure, .read, .pure, .pure, .pure, .pure, .read, .pure, .read, .pure, .pure, .pure, .pure, .pure, .read, .pure, .read, .pure, .read, .pure, .read, .pure, .pure, .pure, .pure, .pure, .read, .pure, .pure, .pure, .pure, .read, .pure, .pure, .pure, .pure, .read, .pure, .pure]) else (.done, clOf [])
def ord68 : Nat → Ord × (Nat → Cls) := fun id => bif Nat.beq id 1 then (.one 0 (.one 1 (.one 2 (.one 3 (.one 4 (.one 5 (.one 6 (.one 7 (.one 8 (.one 9 (.one 10 (.one 11 (.one 12 (.one 13 (.one 14 (.one 15 (.one 16 (.one 17 (.one 18 (.one 19 (.one 20 (.one 21 (.one 22 (.one 23 (.one 24 (.one 25 (.one 26 (.one 27 (.one 28 (.one 29 .done))))))))))))))))))))))))))))), clOf [.pure, .loud, .pure, .pure, .read, .pure, .pure, .pure, .pure, .read, .pure, .pure, .pure, .pure, .pure, .pure, .read, .pure, .pure, .pure, .pure, .read, .pure, .pure, .read, .pure, .read, .pure, .pure, .pure]) else (.done, clOf [])
abbrev ord69 := ordZ
def ord70 : Nat → Ord × (Nat → Cls) := fun id => bif Nat.beq id 7 then (.one 0 (.one 1 (.one 2 (.one 3 (.one 4 (.one 5 (.one 6 (.one 7 (.one 8 .done)))))))), clOf [.pure, .pure, .pure, .read, .pure, .pure, .pure, .read, .pure]) else bif Nat.beq id 8 then (.one 0 (.one 1 (.one 2 (.one 3 (.one 4 (.one 5 (.one 6 (.one 7 (.one 8 (.one 9 (.one 10 (.one 11 (.one 12 (.one 13 (.one 14 .done)))))))))))))), clOf [.pure, .pure, .pure, .pure, .pure, .read, .pure, .pure, .pure, .pure, .read, .pure, .ext, .loud, .pure]) else (.done, clOf [])
def ord71 : Nat → Ord × (Nat → Cls) := fun id => bif Nat.beq id 1 then (.one 0 (.one 1 (.one 3 (.one 4 (.one 5 (.one 6 (.one 8 (.one 9 (.one 11 (.one 12 (.one 2 (.one 7 (.one 10 (.one 13 (.one 14 (.one 15 .done))))))))))))))), clOf [.pure, .read, .ext, .pure, .read, .pure, .read, .ext, .pure, .read, .ext, .pure, .read, .ext, .pure, .loud]) else (.done, clOf [])
abbrev ord72 := ordZ
def ord73 : Nat → Ord × (Nat → Cls) := fun id => bif Nat.beq id 19 then (.one 0 (.one 1 (.one 2 (.one 3 (.one 4 (.one 5 (.one 6 (.one 7 (.one 8 (.one 9 (.one 10 (.one 11 (.one 12 (.one 13 .done))))))))))))), clOf [.pure, .pure, .pure, .read, .pure, .read, .pure, .read, .pure, .read, .pure, .pure, .ext, .loud]) else (.done, clOf [])
abbrev ord74 := ordZ
abbrev ord75 := ordZ
abbrev ord76 := ordZ
def ord77 : Nat → Ord × (Nat → Cls) := fun id => bif Nat.beq id 1 then (.one 0 (.one 1 (.one 2 (.one 3 (.one 4 (.one 5 (.one 6 (.one 7 (.one 8 (.one 9 (.one 10 (.one 11 (.one 12 (.one 13 (.one 14 (.one 15 (.one 16 (.one 17 (.one 18 (.one 19 (.one 20 (.one 21 (.one 22 (.one 23 (.one 24 (.one 25 (.one 26 (.one 27 (.one 28 (.one 29 (.one 30 (.one 31 (.one 32 (.one 33 (.one 34 (.one 35 (.one 36 .done)))))))))))))))))))))))))))))))))))), clOf [.pure, .read, .loud, .pure, .pure, .pure, .read, .pure, .read, .pure, .pure, .loud, .pure, .pure, .pure, .pure, .read, .pure, .read, .pure, .read, .pure, .read, .pure, .pure, .pure, .pure, .pure, .read, .pure, .pure, .pure, .pure, .read, .loud, .pure, .pure]) else bif Nat.beq id 3 then (.one 0 (.one 2 (.one 3 (.one 1 (.one 4 (.one 5 (.one 6 (.one 7 (.one 8 (.one 9 .done))))))))), clOf [.read, .ext, .pure, .read, .read, .pure, .pure, .pure, .pure, .pure]) else (.done, clOf [])
abbrev ord78 := ordZ
abbrev ord79 := ordZ
def ord80 : Nat → Ord × (Nat → Cls) := fun id => bif Nat.beq id 5 then (.one 0 (.one 1 (.one 2 (.one 3 (.one 4 (.one 5 (.one 6 (.one 7 (.one 8 (.one 9 (.one 10 (.one 11 (.one 12 (.one 13 (.one 14 (.one 15 (.one 16 .done)))))))))))))))), clOf [.pure, .read, .pure, .pure, .read, .pure, .pure, .pure, .read, .pure, .pure, .read, .pure, .read, .pure, .pure, .pure]) else bif Nat.beq id 7 then (.one 0 (.one 1 (.one 2 (.one 3 (.one 4 (.one 5 (.one 6 (.one 7 (.one 8 (.one 9 (.one 10 (.one 11 .done))))))))))), clOf [.pure, .pure, .read, .pure, .read, .pure, .pure, .read, .pure, .read, .pure, .pure]) else (.done, clOf [])
abbrev ord81 := ordZ
abbrev ord82 := ordZ
abbrev ord83 := ordZ
abbrev ord84 := ordZ
abbrev ord85 := ordZ
abbrev ord86 := ordZ
def ord87 : Nat → Ord × (Nat → Cls) := fun id => bif Nat.beq id 1 then (.one 0 (.one 1 (.one 2 (.one 3 (.one 4 (.one 5 (.one 6 (.one 7 (.one 8 (.one 9 (.one 10 (.one 11 (.one 12 (.one 13 (.one 14 (.one 15 (.one 16 (.one 17 (.one 18 (.one 19 .done))))))))))))))))))), clOf [.pure, .pure, .pure, .read, .read, .ext, .loud, .pure, .pure, .pure, .pure, .pure, .read, .pure, .read, .loud, .pure, .pure, .pure, .pure]) else (.done, clOf [])
def ord88 : Nat → Ord × (Nat → Cls) := fun id => bif Nat.beq id 1 then (.one 0 (.one 1 (.one 2 (.one 3 (.one 4 (.one 5 (.one 6 .done)))))), clOf [.pure, .pure, .pure, .read, .read, .ext, .loud]) else bif Nat.beq id 2 then (.one 0 (.one 1 (.one 2 (.one 3 (.one 4 (.one 5 (.one 6 (.one 7 (.one 8 (.one 9 (.one 10 (.one 11 (.one 12 (.one 13 (.one 14 (.one 15 (.one 16 (.one 17 (.one 18 .done)))))))))))))))))), clOf [.pure, .pure, .pure, .read, .pure, .read, .pure, .pure, .pure, .read, .pure, .read, .pure, .read, .pure, .read, .pure, .pure, .loud]) else (.done, clOf [])
abbrev ord89 := ordZ
abbrev ord90 := ordZ
def ord91 : Nat → Ord × (Nat → Cls) := fun id => bif Nat.beq id 2 then (.one 0 (.one 1 (.one 2 (.one 3 (.one 4 (.one 5 (.one 6 (.one 7 (.one 8 (.one 9 (.one 10 (.one 11 (.one 12 (.one 13 (.one 14 (.one 15 (.one 16 (.one 17 (.one 18 (.one 19 (.one 20 (.one 21 (.one 22 (.one 23 (.one 24 (.one 25 (.one 26 (.one 27 (.one 28 (.one 29 .done))))))))))))))))))))))))))))), clOf [.pure, .pure, .pure, .pure, .read, .pure, .pure, .pure, .pure, .read, .pure, .pure, .pure, .pure, .read, .pure, .pure, .pure, .pure, .read, .pure, .read, .pure, .pure, .pure, .pure, .read, .pure, .pure, .loud]) else (.done, clOf [])
def ord92 : Nat → Ord × (Nat → Cls) := fun id => bif Nat.beq id 4 then (.one 0 (.one 1 (.one 2 (.one 3 (.one 4 (.one 5 (.one 6 (.one 7 (.one 8 (.one 9 (.one 10 (.one 11 (.one 12 (.one 13 (.one 14 (.one 15 (.one 16 (.one 17 .done))))))))))))))))), clOf [.pure, .pure, .pure, .pure, .read, .read, .ext, .loud, .pure, .pure, .read, .pure, .pure, .pure, .pure, .read, .pure, .pure]) else bif Nat.beq id 7 then (.one 0 (.one 1 (.one 2 (.one 3 (.one 4 (.one 5 (.one 6 (.one 7 (.one 8 (.one 9 (.one 10 (.one 11 (.one 12 (.one 13 (.one 14 (.one 15 .done))))))))))))))), clOf [.pure, .pure, .pure, .pure, .pure, .read, .pure, .pure, .pure, .pure, .read, .pure, .pure, .pure, .pure, .loud]) else (.done, clOf [])
def ord93 : Nat → Ord × (Nat → Cls) := fun id => bif Nat.beq id 4 then (.one 0 (.one 1 (.one 2 (.one 3 (.one 4 (.one 5 (.one 6 (.one 7 (.one 8 (.one 9 (.one 10 (.one 11 (.one 12 (.one 13 (.one 14 (.one 15 (.one 16 (.one 17 (.one 18 .done)))))))))))))))))), clOf [.pure, .pure, .pure, .read, .pure, .pure, .pure, .read, .pure, .pure, .pure, .pure, .read, .pure, .pure, .pure, .read, .pure, .pure]) else bif Nat.beq id 7 then (.one 0 (.one 1 (.one 2 (.one 3 (.one 4 (.one 5 (.one 6 (.one 7 (.one 8 (.one 9 (.one 10 (.one 11 (.one 12 (.one 13 .done))))))))))))), clOf [.pure, .pure, .pure, .pure, .read, .pure, .read, .pure, .read, .pure, .read, .pure, .pure, .loud]) else (.done, clOf [])
def ord94 : Nat → Ord × (Nat → Cls) := fun id => bif Nat.beq id 1 then (.one 0 (.one 1 (.one 2 (.one 3 (.one 4 (.one 5 (.one 6 (.one 7 (.one 8 (.one 9 (.one 10 (.one 11 (.one 12 (.one 13 (.one 14 (.one 15 (.one 16 (.one 17 (.one 18 (.one 19 (.one 20 (.one 21 .done))))))))))))))))))))), clOf [.pure, .pure, .pure, .read, .pure, .pure, .read, .pure, .pure, .pure, .pure, .read, .pure, .pure, .pure, .read, .loud, .pure, .pure, .pure, .pure, .pure]) else (.done, clOf [])
def ord95 : Nat → Ord × (Nat → Cls) := fun id => bif Nat.beq id 2 then (.one 0 (.one 1 (.one 2 (.one 3 (.one 4 (.one 5 (.one 6 (.one 7 (.one 8 (.one 9 (.one 10 (.one 11 (.one 12 (.one 13 (.one 14 (.one 15 .done))))))))))))))), clOf [.pure, .pure, .pure, .pure, .pure, .read, .pure, .pure, .pure, .pure, .read, .loud, .pure, .pure, .pure, .loud]) else (.done, clOf [])
abbrev ord96 := ordZ
abbrev ord97 := ordZ
abbrev ord98 := ordZ
abbrev ord99 := ordZ
abbrev ord100 := ordZ
abbrev ord101 := ordZ
abbrev ord102 := ordZ
abbrev ord103 := ordZ
abbrev ord104 := ordZ
abbrev ord105 := ordZ
abbrev ord106 := ordZ
abbrev ord107 := ordZ
abbrev ord108 := ordZ
abbrev ord109 := ordZ
abbrev ord110 := ordZ
abbrev ord111 := ordZ
abbrev ord112 := ordZ
abbrev ord113 := ordZ
abbrev ord114 := ordZ
abbrev ord115 := ordZ
abbrev ord116 := ordZ
abbrev ord117 := ordZ
abbrev ord118 := ordZ
def ord119 : Nat → Ord × (Nat → Cls) := fun id => bif Nat.beq id 7 then (.one 0 (.one 1 (.one 2 (.one 3 (.one 4 (.one 5 (.one 6 (.one 7 .done))))))), clOf [.pure, .pure, .pure, .pure, .read, .read, .loud, .pure]) else (.done, clOf [])
def ord120 : Nat → Ord × (Nat → Cls) := fun id => bif Nat.beq id 1 then (.one 0 (.one 1 (.one 2 (.one 3 (.one 4 (.one 5 (.one 7 (.one 8 (.one 9 (.one 10 (.one 11 (.one 12 (.one 6 (.one 13 (.one 14 (.one 15 (.one 16 .done)))))))))))))))), clOf [.pure, .pure, .read, .pure, .pure, .read, .ext, .pure, .pure, .read, .pure, .pure, .read, .loud, .ext, .loud, .pure]) else (.done, clOf [])
abbrev ord121 := ordZ
def ord123 : Nat → Ord × (Nat → Cls) := fun id => bif Nat.beq id 6 then (.one 0 (.one 1 (.one 2 (.one 3 (.one 4 (.one 5 (.one 6 (.one 7 (.one 8 (.one 9 .done))))))))), clOf [.pure, .pure, .pure, .read, .pure, .pure, .pure, .pure, .read, .pure]) else bif Nat.beq id 11 then (.one 0 (.one 1 (.one 2 (.one 3 (.one 4 (.one 5 (.one 6 (.one 7 (.one 8 (.one 9 .done))))))))), clOf [.pure, .pure, .pure, .read, .pure, .pure, .pure, .pure, .read, .pure]) else (.done, clOf [])
abbrev ord124 := ordZ
abbrev ord125 := ordZ
abbrev ord126 := ordZ
abbrev ord127 := ordZ
abbrev ord128 := ordZ
abbrev ord129 := ordZ
abbrev ord131 := ordZ
abbrev ord132 := ordZ
def ord133 : Nat → Ord × (Nat → Cls) := fun id => bif Nat.beq id 11 then (.one 0 (.one 1 (.one 2 (.one 3 (.one 4 (.one 5 (.one 6 (.one 7 (.one 8 .done)))))))), clOf [.pure, .pure, .pure, .pure, .pure, .pure, .pure, .pure, .loud]) else bif Nat.beq id 15 then (.one 0 (.one 1 (.one 2 (.one 3 (.one 4 (.one 5 (.one 6 (.one 7 (.one 8 .done)))))))), clOf [.pure, .pure, .pure, .pure, .pure, .pure, .pure, .pure, .loud]) else (.done, clOf [])
abbrev ord134 := ordZ
abbrev ord135 := ordZ
def ord136 : Nat → Ord × (Nat → Cls) := fun id => bif Nat.beq id 11 then (.one 0 (.one 1 (.one 2 (.one 3 (.one 4 (.one 5 (.one 6 (.one 7 .done))))))), clOf [.pure, .pure, .pure, .pure, .read, .pure, .read, .pure]) else (.done, clOf [])
def ord137 : Nat → Ord × (Nat → Cls) := fun id => bif Nat.beq id 4 then (.one 0 (.one 1 (.one 2 (.one 3 (.one 4 (.one 5 (.one 6 (.one 7 (.one 8 (.one 9 (.one 10 (.one 11 (.one 12 (.one 13 (.one 14 (.one 15 .done))))))))))))))), clOf [.pure, .pure, .pure, .read, .loud, .pure, .pure, .pure, .pure, .pure, .pure, .pure, .pure, .read, .loud, .pure]) else (.done, clOf [])
def ord138 : Nat → Ord × (Nat → Cls) := fun id => bif Nat.beq id 9 then (.one 0 (.one 1 (.one 2 (.one 3 (.one 4 (.one 5 (.one 6 (.one 7 (.one 8 (.one 9 (.one 10 (.one 11 (.one 12 (.one 13 (.one 14 (.one 15 (.one 16 (.one 17 (.one 18 (.one 19 (.one 20 (.one 21 (.one 22 .done)))))))))))))))))))))), clOf [.pure, .read, .pure, .pure, .pure, .pure, .read, .read, .loud, .pure, .pure, .pure, .read, .pure, .pure, .pure, .pure, .pure, .read, .read, .loud, .pure, .pure]) else (.done, clOf [])
def ord139 : Nat → Ord × (Nat → Cls) := fun id => bif Nat.beq id 10 then (.one 0 (.one 1 (.one 2 (.one 3 (.one 4 (.one 5 (.one 6 (.one 7 (.one 8 (.one 9 (.one 10 (.one 11 (.one 12 (.one 13 (.one 14 (.one 15 (.one 16 .done)))))))))))))))), clOf [.pure, .read, .pure, .pure, .read, .pure, .pure, .pure, .read, .pure, .pure, .read, .pure, .read, .pure, .pure, .pure]) else bif Nat.beq id 20 then (.one 0 (.one 1 (.one 2 (.one 3 (.one 4 (.one 5 (.one 6 (.one 7 (.one 8 (.one 9 (.one 10 (.one 11 (.one 12 (.one 13 (.one 14 (.one 15 (.one 16 (.one 17 (.one 18 (.one 19 (.one 20 (.one 21 (.one 22 (.one 23 (.one 24 .done)))))))))))))))))))))))), clOf [.pure, .read, .pure, .pure, .pure, .read, .pure, .read, .pure, .pure, .pure, .pure, .pure, .read, .pure, .pure, .read, .pure, .read, .pure, .pure, .read, .pure, .pure, .pure]) else bif Nat.beq id 26 then (.one 0 (.one 1 (.one 2 (.one 3 (.one 4 (.one 5 (.one 6 (.one 7 (.one 8 (.one 9 (.one 10 (.one 11 (.one 12 (.one 13 (.one 14 (.one 15 (.one 16 (.one 17 (.one 18 (.one 19 (.one 20 (.one 21 (.one 22 (.one 23 (.one 24 (.one 25 (.one 26 (.one 27 (.one 28 (.one 29 (.one 30 (.one 31 (.one 32 (.one 33 (.one 34 (.one 35 .done))))))))))))))))))))))))))))))))))), clOf [.pure, .pure, .pure, .pure, .read, .pure, .pure, .read, .loud, .pure, .pure, .pure, .pure, .pure, .pure, .pure, .read, .pure, .pure, .read, .pure, .pure, .pure, .read, .pure, .pure, .read, .pure, .read, .pure, .pure, .read, .pure, .pure, .pure, .pure]) else (.done, clOf [])
def ord140 : Nat → Ord × (Nat → Cls) := fun id => bif Nat.beq id 9 then (.one 0 (.one 1 (.one 2 (.one 3 (.one 4 (.one 5 (.one 6 (.one 7 (.one 8 (.one 9 (.one 10 (.one 11 (.alt 12 (.one 13 (.one 14 (.one 15 .done))) (.alt 13 (.one 12 (.one 14 (.one 15 .done))) (.none)))))))))))))), clOf [.pure, .read, .pure, .read, .pure, .read, .pure, .read, .pure, .read, .pure, .read, .ext, .ext, .ext, .ext, .ext]) else bif Nat.beq id 10 then (.one 0 (.one 1 (.one 2 (.one 3 (.one 4 (.one 5 (.one 6 (.one 7 (.one 8 (.one 9 (.one 10 (.one 11 (.one 12 (.one 13 (.one 14 (.one 15 (.one 16 (.one 17 (.one 18 (.one 19 (.one 20 (.one 21 (.one 22 (.one 23 (.one 24 (.one 25 (.one 26 (.one 27 (.one 28 (.one 29 (.one 30 (.one 31 (.one 32 (.one 33 (.one 34 (.one 35 (.one 36 (.one 37 (.one 38 (.one 39 .done))))))))))))))))))))))))))))))))))))))), clOf [.pure, .read, .pure, .pure, .pure, .read, .pure, .pure, .pure, .pure, .read, .pure, .pure, .pure, .pure, .read, .pure, .read, .pure, .pure, .pure, .pure, .pure, .read, .pure, .pure, .pure, .pure, .pure, .read, .pure, .read, .pure, .read, .pure, .read, .pure, .read, .pure, .pure]) else bif Nat.beq id 15 then (.one 0 (.one 1 (.one 2 (.one 3 (.one 4 (.one 5 (.one 6 (.one 7 (.one 8 (.one 9 (.one 10 (.one 11 (.one 12 (.one 13 (.one 14 (.one 15 (.one 16 .done)))))))))))))))), clOf [.read, .pure, .read, .pure, .pure, .pure, .read, .pure, .read, .pure, .pure, .pure, .read, .pure, .read, .pure, .loud]) else (.done, clOf [])
abbrev ord141 := ordZ
abbrev ord142 := ordZ
abbrev ord143 := ordZ
abbrev ord144 := ordZ
abbrev ord145 := ordZ
abbrev ord146 := ordZ
abbrev ord147 := ordZ
def ord148 : Nat → Ord × (Nat → Cls) := fun id => bif Nat.beq id 4 then (.one 0 (.one 1 (.one 2 (.one 3 (.one 4 (.one 5 (.one 6 (.one 7 (.one 8 (.one 9 (.one 10 (.one 11 (.one 12 (.one 13 (.one 14 (.one 15 (.one 16 .done)))))))))))))))), clOf [.pure, .pure, .pure, .pure, .pure, .pure, .pure, .pure, .read, .pure, .pure, .pure, .pure, .read, .loud, .pure, .pure]) else bif Nat.beq id 6 then (.one 0 (.one 1 (.one 2 (.one 3 (.one 4 (.one 5 (.one 6 (.one 7 (.one 8 (.one 9 (.one 10 (.one 11 (.one 12 (.one 13 (.one 14 (.one 15 (.one 16 (.one 17 .done))))))))))))))))), clOf [.pure, .pure, .pure, .pure, .pure, .pure, .pure, .pure, .pure, .read, .pure, .pure, .pure, .read, .pure, .loud, .pure, .loud]) else (.done, clOf [])
def ord149 : Nat → Ord × (Nat → Cls) := fun id => bif Nat.beq id 5 then (.one 0 (.one 1 (.one 2 (.one 3 (.one 4 (.one 5 (.one 6 (.one 7 (.one 8 (.one 9 (.one 10 .done)))))))))), clOf [.pure, .pure, .pure, .pure, .read, .pure, .pure, .pure, .read, .loud, .pure]) else bif Nat.beq id 11 then (.one 0 (.one 1 (.one 2 (.one 3 (.one 4 (.one 5 (.one 6 (.one 7 (.one 8 (.one 9 (.one 10 (.one 11 (.one 12 (.one 13 (.one 14 (.one 15 (.one 16 (.one 17 .done))))))))))))))))), clOf [.pure, .pure, .pure, .pure, .pure, .pure, .pure, .pure, .pure, .read, .pure, .pure, .pure, .read, .pure, .loud, .pure, .loud]) else bif Nat.beq id 17 then (.one 0 (.one 1 (.one 2 (.one 3 (.one 4 (.one 5 (.one 6 (.one 7 (.one 8 (.one 9 (.one 10 (.one 11 .done))))))))))), clOf [.pure, .pure, .pure, .pure, .read, .pure, .pure, .pure, .read, .loud, .pure, .pure]) else bif Nat.beq id 23 then (.one 0 (.one 1 (.one 2 (.one 3 (.one 4 (.one 5 (.one 6 (.one 7 (.one 8 (.one 9 (.one 10 (.one 11 (.one 12 (.one 13 (.one 14 (.one 15 (.one 16 (.one 17 .done))))))))))))))))), clOf [.pure, .pure, .pure, .pure, .pure, .pure, .pure, .pure, .pure, .read, .pure, .pure, .pure, .read, .pure, .loud, .pure, .loud]) else bif Nat.beq id 35 then (.one 0 (.one 1 (.one 2 (.one 3 (.one 4 (.one 5 (.one 6 (.one 7 (.one 8 (.one 9 (.one 10 (.one 11 (.one 12 (.one 13 .done))))))))))))), clOf [.pure, .pure, .pure, .pure, .pure, .pure, .read, .pure, .pure, .pure, .read, .loud, .pure, .pure]) else (.done, clOf [])
abbrev ord150 := ordZ
abbrev ord151 := ordZ
abbrev ord152 := ordZ
def ord153 : Nat → Ord × (Nat → Cls) := fun id => bif Nat.beq id 1 then (.one 0 (.one 1 (.one 2 (.one 3 (.one 4 (.one 5 .done))))), clOf [.pure, .read, .read, .ext, .loud, .pure]) else (.done, clOf [])
abbrev ord157 := ordZ
def ord158 : Nat → Ord × (Nat → Cls) := fun id => bif Nat.beq id 7 then (.one 0 (.one 1 (.one 2 (.one 3 (.one 4 (.one 5 (.one 6 (.one 7 (.one 8 (.one 9 (.one 10 (.one 11 (.one 12 (.one 13 (.one 14 (.one 15 (.one 16 (.one 17 (.one 18 (.one 19 (.one 20 (.one 21 (.one 22 (.one 23 (.one 24 .done)))))))))))))))))))))))), clOf [.read, .read, .loud, .pure, .pure, .pure, .read, .loud, .read, .pure, .pure, .pure, .pure, .pure, .pure, .read, .pure, .pure, .pure, .read, .read, .loud, .pure, .pure, .pure]) else (.done, clOf [])
abbrev ord159 := ordZ
def ord160 : Nat → Ord × (Nat → Cls) := fun id => bif Nat.beq id 5 then (.one 0 (.one 1 (.one 2 (.one 3 (.one 4 (.one 5 (.one 6 (.one 7 (.one 8 (.one 9 (.one 10 (.one 11 (.one 12 .done)))))))))))), clOf [.pure, .read, .pure, .pure, .read, .pure, .read, .loud, .pure, .pure, .pure, .pure, .pure]) else bif Nat.beq id 6 then (.one 0 (.one 2 (.one 3 (.one 4 (.one 5 (.one 6 (.one 7 (.one 8 (.one 9 (.alt 1 (.one 10 (.one 11 (.one 12 (.one 13 (.one 14 .done))))) (.alt 10 (.alt 1 (.one 11 (.one 12 (.one 13 (.one 14 .done)))) (.alt 11 (.one 1 (.one 12 (.one 13 (.one 14 .done)))) (.none))) (.none))))))))))), clOf [.pure, .ext, .pure, .read, .pure, .pure, .read, .pure, .pure, .read, .ext, .loud, .pure, .pure, .loud]) else (.done, clOf [])
abbrev ord161 := ordZ
def ord162 : Nat → Ord × (Nat → Cls) := fun id => bif Nat.beq id 1 then (.one 0 (.one 2 (.alt 1 (.one 4 (.one 5 (.alt 3 (.one 6 (.one 7 (.one 8 (.one 9 .done)))) (.alt 6 (.one 3 (.one 7 (.one 8 (.one 9 .done)))) (.none))))) (.alt 3 (.one 1 (.one 4 (.one 5 (.one 6 (.one 7 (.one 8 (.one 9 .done))))))) (.none)))), clOf [.pure, .loud, .pure, .loud, .pure, .pure, .loud, .pure, .pure, .loud]) else (.done, clOf [])
def ord163 : Nat → Ord × (Nat → Cls) := fun id => bif Nat.beq id 4 then (.one 0 (.one 1 (.one 2 (.one 3 (.one 4 (.one 6 (.one 7 (.one 8 (.one 9 (.one 10 (.one 5 (.one 11 (.one 12 (.one 13 (.one 14 .done)))))))))))))), clOf [.pure, .read, .pure, .pure, .read, .ext, .pure, .read, .pure, .pure, .read, .loud, .ext, .loud, .pure]) else bif Nat.beq id 5 then (.one 0 (.one 1 (.one 2 (.one 3 (.one 4 (.one 5 (.one 6 (.one 7 (.one 8 .done)))))))), clOf [.pure, .read, .pure, .pure, .read, .pure, .read, .pure, .loud]) else (.done, clOf [])
abbrev ord164 := ordZ
abbrev ord165 := ordZ
abbrev ord166 := ordZ
abbrev ord169 := ordZ
abbrev ord170 := ordZ
abbrev ord171 := ordZ
abbrev ord172 := ordZ
abbrev ord173 := ordZ
abbrev ord174 := ordZ
abbrev ord175 := ordZ
def ord176 : Nat → Ord × (Nat → Cls) := fun id => bif Nat.beq id 5 then (.one 0 (.one 1 (.one 2 (.one 3 (.one 4 (.one 5 (.one 6 (.one 7 (.one 8 (.one 9 (.one 10 (.one 11 (.one 12 (.one 13 (.one 14 (.one 15 (.one 16 (.one 17 (.one 18 (.one 19 (.one 20 (.one 21 (.one 22 (.one 23 (.one 24 (.one 25 (.one 26 (.one 27 (.one 28 (.one 29 (.one 30 (.one 31 (.one 32 (.one 33 (.one 34 (.one 35 .done))))))))))))))))))))))))))))))))))), clOf [.pure, .read, .pure, .pure, .pure, .read, .pure, .pure, .pure, .pure, .pure, .pure, .pure, .pure, .read, .pure, .pure, .pure, .pure, .read, .pure, .read, .pure, .pure, .pure, .pure, .pure, .read, .pure, .pure, .pure, .pure, .read, .loud, .pure, .pure]) else (.done, clOf [])
def ord177 : Nat → Ord × (Nat → Cls) := fun id => bif Nat.beq id 7 then (.one 0 (.one 1 (.one 2 (.one 3 (.one 4 (.one 5 (.one 6 (.one 7 (.one 8 (.one 9 (.one 10 (.one 11 (.one 12 (.one 13 (.one 14 (.one 15 (.one 16 (.one 17 (.one 18 (.one 19 (.one 20 (.one 21 (.one 22 (.one 23 (.one 24 (.one 25 (.one 26 (.one 27 (.one 28 (.one 29 (.one 30 (.one 31 (.one 32 (.one 33 (.one 34 (.one 35 (.one 36 (.one 37 (.one 38 (.one 39 .done))))))))))))))))))))))))))))))))))))))), clOf [.pure, .read, .pure, .pure, .pure, .read, .pure, .pure, .pure, .pure, .pure, .read, .pure, .read, .pure, .read, .pure, .read, .pure, .pure, .pure, .pure, .read, .pure, .read, .pure, .pure, .pure, .pure, .read, .pure, .read, .pure, .read, .pure, .read, .pure, .read, .pure, .pure]) else (.done, clOf [])
abbrev ord178 := ordZ
def ord179 : Nat → Ord × (Nat → Cls) := fun id => bif Nat.beq id 4 then (.one 0 (.one 1 (.one 2 (.one 3 (.one 4 (.one 5 (.one 6 (.one 7 (.one 8 .done)))))))), clOf [.pure, .pure, .pure, .read, .pure, .pure, .pure, .read, .pure]) else bif Nat.beq id 5 then (.one 0 (.one 1 (.one 2 (.one 3 (.one 4 (.one 5 (.one 6 (.one 7 (.one 8 (.one 9 .done))))))))), clOf [.pure, .pure, .pure, .read, .pure, .pure, .pure, .read, .pure, .pure]) else (.done, clOf [])
def ord180 : Nat → Ord × (Nat → Cls) := fun id => bif Nat.beq id 6 then (.one 0 (.one 1 (.one 2 (.one 3 (.one 4 (.one 5 (.one 6 (.one 7 (.one 8 (.one 9 (.one 10 (.one 11 (.one 12 (.one 13 (.one 14 (.one 15 (.one 16 (.one 17 (.one 18 (.one 19 (.one 20 (.one 21 (.one 22 (.one 23 (.one 24 (.one 25 (.one 26 (.one 27 (.one 28 (.one 29 (.one 30 (.one 31 (.one 32 (.one 33 (.one 34 (.one 35 .done))))))))))))))))))))))))))))))))))), clOf [.pure, .read, .pure, .pure, .pure, .read, .pure, .pure, .pure, .pure, .pure, .pure, .pure, .pure, .read, .pure, .pure, .pure, .pure, .read, .pure, .read, .pure, .pure, .pure, .pure, .pure, .read, .pure, .pure, .pure, .pure, .read, .loud, .pure, .pure]) else bif Nat.beq id 18 then (.one 0 (.one 1 (.one 2 (.one 3 (.one 4 (.one 5 (.one 6 (.one 7 (.one 8 (.one 9 (.one 10 (.one 11 (.one 12 (.one 13 (.one 14 (.one 15 (.one 16 (.one 17 .done))))))))))))))))), clOf [.pure, .pure, .pure, .pure, .pure, .pure, .pure, .read, .pure, .pure, .pure, .pure, .read, .pure, .read, .pure, .pure, .pure]) else (.done, clOf [])
def ord181 : Nat → Ord × (Nat → Cls) := fun id => bif Nat.beq id 6 then (.one 0 (.one 1 (.one 2 (.one 3 (.one 4 (.one 5 (.one 6 (.one 7 (.one 8 (.one 9 (.one 10 (.one 11 (.one 12 (.one 13 (.one 14 (.one 15 (.one 16 (.one 17 (.one 18 (.one 19 (.one 20 .done)))))))))))))))))))), clOf [.pure, .read, .pure, .pure, .pure, .read, .pure, .pure, .pure, .read, .pure, .read, .pure, .pure, .pure, .read, .pure, .pure, .pure, .loud, .pure]) else (.done, clOf [])
abbrev ord182 := ordZ
abbrev ord183 := ordZ
abbrev ord184 := ordZ
def ord185 : Nat → Ord × (Nat → Cls) := fun id => bif Nat.beq id 4 then (.one 0 (.one 1 (.one 2 (.one 3 (.one 4 (.one 5 (.one 6 (.one 7 (.one 8 .done)))))))), clOf [.pure, .pure, .pure, .read, .pure, .pure, .pure, .read, .pure]) else (.done, clOf [])
abbrev ord186 := ordZ
abbrev ord187 := ordZ
def ord198 : Nat → Ord × (Nat → Cls) := fun id => bif Nat.beq id 3 then (.one 0 (.one 1 (.one 2 (.one 3 (.one 4 (.one 5 (.one 6 (.one 7 .done))))))), clOf [.pure, .pure, .read, .pure, .pure, .read, .pure, .pure]) else (.done, clOf [])
abbrev ord199 := ordZ
def ord200 : Nat → Ord × (Nat → Cls) := fun id => bif Nat.beq id 1 then (.one 0 (.one 1 (.one 2 (.one 3 (.one 5 (.one 6 (.one 7 (.one 8 (.one 10 (.one 11 (.one 12 (.one 13 (.one 4 (.one 9 (.one 14 (.one 15 (.one 16 (.one 17 .done))))))))))))))))), clOf [.pure, .read, .pure, .read, .ext, .pure, .read, .pure, .read, .ext, .pure, .read, .pure, .read, .loud, .ext, .loud, .pure]) else (.done, clOf [])
abbrev ord201 := ordZ
def ord202 : Nat → Ord × (Nat → Cls) := fun id => bif Nat.beq id 1 then (.one 0 (.one 2 (.one 3 (.one 1 (.one 4 (.one 5 (.one 6 .done)))))), clOf [.read, .ext, .pure, .read, .loud, .pure, .pure]) else (.done, clOf [])
def ord203 : Nat → Ord × (Nat → Cls) := fun id => bif Nat.beq id 5 then (.one 0 (.one 1 (.one 2 (.one 3 (.one 4 (.one 5 (.one 6 (.one 7 .done))))))), clOf [.pure, .pure, .pure, .pure, .read, .read, .loud, .pure]) else bif Nat.beq id 8 then (.one 0 (.one 1 (.one 2 (.one 3 (.one 4 (.one 5 (.one 6 (.one 7 (.one 8 (.one 9 (.one 10 (.one 11 (.one 12 (.one 13 (.one 14 (.one 15 .done))))))))))))))), clOf [.pure, .pure, .pure, .pure, .pure, .pure, .pure, .pure, .pure, .read, .read, .loud, .pure, .pure, .pure, .pure]) else (.done, clOf [])
def ord204 : Nat → Ord × (Nat → Cls) := fun id => bif Nat.beq id 11 then (.one 0 (.one 1 (.one 2 (.one 3 (.one 4 (.one 5 (.one 6 (.one 7 (.one 8 .done)))))))), clOf [.pure, .pure, .pure, .pure, .pure, .pure, .pure, .pure, .loud]) else bif Nat.beq id 15 then (.one 0 (.one 1 (.one 2 (.one 3 (.one 4 (.one 5 (.one 6 (.one 7 (.one 8 .done)))))))), clOf [.pure, .pure, .pure, .pure, .pure, .pure, .pure, .pure, .loud]) else (.done, clOf [])
def ord205 : Nat → Ord × (Nat → Cls) := fun id => bif Nat.beq id 1 then (.one 0 (.one 2 (.one 3 (.one 4 (.one 5 (.one 6 (.one 7 (.alt 1 (.one 8 (.one 9 (.one 10 (.one 11 .done)))) (.alt 8 (.one 1 (.one 9 (.one 10 (.one 11 .done)))) (.none))))))))), clOf [.pure, .ext, .pure, .read, .pure, .pure, .read, .pure, .loud, .pure, .pure, .loud]) else (.done, clOf [])
abbrev ord207 := ordZ
abbrev ord208 := ordZ
def ord209 : Nat → Ord × (Nat → Cls) := fun id => bif Nat.beq id 6 then (.one 0 (.one 1 (.one 2 (.one 3 (.one 4 (.one 5 (.one 6 (.one 7 (.one 8 .done)))))))), clOf [.pure, .pure, .pure, .read, .pure, .pure, .pure, .read, .pure]) else (.done, clOf [])
abbrev ord210 := ordZ
abbrev ord211 := ordZ
def ord212 : Nat → Ord × (Nat → Cls) := fun id => bif Nat.beq id 3 then (.one 0 (.one 1 (.one 2 (.one 3 (.one 4 (.one 5 (.one 6 (.one 7 (.one 8 (.one 9 (.one 10 (.one 11 (.one 12 (.one 13 (.one 14 (.one 15 (.one 16 (.one 17 (.one 18 (.one 19 (.one 20 (.one 21 (.one 22 (.one 23 .done))))))))))))))))))))))), clOf [.pure, .pure, .pure, .pure, .pure, .pure, .pure, .pure, .pure, .pure, .pure, .pure, .pure, .read, .pure, .pure, .pure, .pure, .pure, .read, .pure, .loud, .pure, .loud]) else (.done, clOf [])
abbrev ord218 := ordZ
abbrev ord221 := ordZ
def ord222 : Nat → Ord × (Nat → Cls) := fun id => bif Nat.beq id 1 then (.one 0 (.one 1 (.one 2 (.one 3 (.one 4 (.one 5 (.one 6 .done)))))), clOf [.pure, .pure, .read, .read, .ext, .loud, .pure]) else (.done, clOf [])
abbrev ord224 := ordZ
abbrev ord225 := ordZ
abbrev ord228 := ordZ
def ord229 : Nat → Ord × (Nat → Cls) := fun id => bif Nat.beq id 5 then (.one 1 (.one 2 (.one 3 (.one 4 (.one 0 (.one 5 .done))))), clOf [.loud, .pure, .pure, .pure, .pure, .loud]) else (.done, clOf [])
abbrev ord231 := ordZ
abbrev ord232 := ordZ
abbrev ord233 := ordZ
abbrev ord234 := ordZ
def ord235 : Nat → Ord × (Nat → Cls) := fun id => bif Nat.beq id 6 then (.one 0 (.one 1 (.one 2 (.one 3 (.one 4 (.one 5 (.one 6 (.one 7 (.one 8 (.one 9 (.one 10 (.one 11 (.one 12 (.one 13 (.one 14 (.one 15 (.one 16 (.one 17 (.one 18 .done)))))))))))))))))), clOf [.pure, .pure, .pure, .pure, .pure, .pure, .pure, .pure, .pure, .pure, .pure, .pure, .pure, .pure, .pure, .pure, .read, .pure, .pure]) else (.done, clOf [])
abbrev ord236 := ordZ
end Go.Proofs.YtajenkpjcbaadaaGreat
namespace Go.CF
open Go
theorem xA {p X Y : Prop} (hx : X) (h : p := by first|assumption|omega|rfl) : Bd p X Y := .t h hx
theorem xB {p X Y : Prop} (hy : Y) (h : ¬ p := by first|assumption|omega|exact Bool.false_ne_true) : Bd p X Y := .f h hy
theorem xN {α : Type} {l l' : List α} {k : List α → Prop} (hk : k l') (h : LN l l' := by repeat constructor) : Nm l k := .r h hk
theorem xT {o rest : List Res} {b : Nat} {k : TypeId → List AV → List Res → Prop} {T : TypeId} {cs : List AV} (hk : k T cs rest) (h : Take o (blkR b T cs) rest := by repeat constructor) : TkB o b k := .r h hk
theorem xU {α : Type} {o rest : List Res} {v : Value} {k : ∀ {α : Type}, TypeId → Nat → List α → (α → List AV) → List Res → Prop} {T : TypeId} {sz : Nat} {l : List α} {f : α → List AV} (hk : k T sz l f rest) (h : Take o (arrR v T sz l f) rest := by repeat constructor) : TkA o v k := .r h hk
theorem xM {β : Type} {P : Program} {o rest : List Res} {b : Nat} {k : ∀ {β : Type}, TypeId → List (List Int × β) → (β → AV) → List Res → Prop} {kt : TypeId} {kvs : List (List Int × β)} {f : β → AV} (hk : k kt kvs f rest) (h : Take o (mapR P b kt kvs f) rest := by repeat constructor) : TkM P o b k := .r h hk
theorem xV {l : List AV} {k : Nat} {v : AV} {M : List AV → Prop} {l' : List AV} (hm : M l') (h : SetA l k v l' := by repeat first|assumption|constructor) : SetAk l k v M := .r h hm
theorem xO {i : Int} {M : Int → Prop} (hm : M i) (h : -9223372036854775808 ≤ i ∧ i ≤ 9223372036854775807 := by first|omega|(simp <;> omega)) : Ov i M := .n h hm
theorem xI {α : Type} {l : List α} {i : Int} {k : Nat → α → Prop} {j : Nat} {x : α} (hk : k j x) (hi : i = (j : Int) := by exact rfl) (h : l[j]? = some x := by assumption) : Ix l i k := .q hi h hk
theorem xJ {α : Type} {l : List α} {k : α → Prop} {j : Nat} {x : α} (hk : k x) (h : l[j]? = some x := by assumption) : At l j k := .r h hk
theorem xP {p k : Prop} (hk : k) (h : p := by first|omega|(simp <;> omega)) : Om p k := ⟨h, hk⟩
theorem xK {cs : List AV} {M : List Int → Prop} {xs : List Int} (hm : M xs) (h : ILit cs xs := by repeat (first|apply ILit.cons|exact ILit.nil)) : Il cs M := .r h hm
section
variable {Γ : Cx} {k : List KI} {e : EA} {o : List Res} {ops : Array Oper} {c : Cls}
theorem xD {i : Nat} {t : Ord} (h : RA' Γ k ops (Γ.T i).2 t e o) (_hx : isLoud ((Γ.T i).2 ops.size) = true := by rfl) (hn : Region.noSelect ops = true := by kernel_rfl) (hc : chk ops (Γ.T i).2 (Γ.T i).1 ops.size true (Array.replicate ops.size false) = true := by kernel_rfl) (ho : ON (Γ.T i).1 t := by repeat' constructor) (hd : (ops.toList.all fun op => dOK Γ.n op.dst) = true := by rfl) : CA Γ k (.region i ops true) e o := .draw _hx hn hc ho hd h
theorem xQ {f : FuncId} {as' : List AV} {r : AV} (hc : CallP Γ.P f as' r) {xs : List AV} {M : AV → List Res → Prop} (hm : M r o) (hv : Lend [] xs as' := by repeat' (first|exact Lend.nil|apply Lend.keep)) : Cl Γ c f xs o M := .p hc hv hm
theorem xW {f : FuncId} {xs as' : List AV} {own rest : List Res} {K : AV → List Res → Prop} {M : AV → List Res → Prop} (hc : CallA Γ.P f as' own K) (hm : ∀ r own', K r own' → M r (own' ++ rest)) (hv : Lend [] xs as' := by repeat' (first|exact Lend.nil|apply Lend.keep)) (ht : Takes o own rest := by repeat (first|exact Takes.nil|(apply Takes.cons;(focus repeat constructor)))) (hl : (isLoud c || own.isEmpty) = true := by rfl) : Cl Γ c f xs o M := .use hc hv ht hl hm
end
theorem xE {e : EA} {o : List Res} {σ : AS} (h1 : subA' e σ.env := by repeat first|trivial|refine ⟨rfl,?_⟩) (h2 : Subl o σ.own := by repeat first|exact .nil|refine .cons (by repeat constructor) ?_) : Sub e o σ := ⟨h1, h2⟩
theorem FL.z {o own : List Res} (h : Subl o own := by repeat first|exact .nil|refine .cons (by repeat constructor) ?_) : FL o [] [] own := .nil h
end Go.CF
namespace Go.Proofs.YtajenkpjcbaadaaGreat
open Go Go.CF
set_option maxRecDepth 20000
def intC (x : Int) : List AV := [.val (.int .i64 x)]
abbrev ints (l : List Int) : AV := .sl 1 l intC
theorem vb {a b : Bool} (h : a = b) : AV.val (.bool a) = AV.val (.bool b) := by rw [h]
theorem all_succ {α : Type} {l : List α} {i : Nat} {x : α} {P : α → Prop} (h : l[i]? = some x) (ha : ∀ y ∈ l.take i, P y) (hx : P x) : ∀ y ∈ l.take (i + 1), P y := fun y hy => by
 rw [List.take_add_one, h] at hy
 rcases List.mem_append.1 hy with h1|h1
 ·exact ha y h1
 ·simp at h1;exact h1 ▸ hx
theorem get_of {α : Type} {l : List α} {i : Nat} (h : i < l.length) : ∃ x, l[i]? = some x := ⟨_, List.getElem?_eq_getElem h⟩
theorem equal_p (a b : List Int) : CallP Tryz.prog 18 [ints a, ints b] (.val (.bool (decide (a = b)))) := by
 refine CallA.of pg ord18 Tryz.func18 rfl Tryz.ntmps18 Tryz.results18 rfl fun h0 G0 O0 => ?_
 repeat' (first|refine Sp.h ?_|refine Lk.r rfl ?_|refine Rf.mk rfl ?_|(refine Bd.mk ?_ ?_ <;> intro _)|refine Im.mk fun _=>?_|refine xN ?_|fail)
 ·rename_i ha hb hab _
  refine CA.loop (fun i : Nat => ⟨[(0, ints a), (1, ints b), (12, .val (.int .i64 a.length)), (13, .val (.int .i64 i))], []⟩) (fun i => i ≤ a.length ∧ a.take i = b.take i) (fun i => a.length - i) 0 xE ⟨Nat.zero_le _, by simp⟩ ?_
  rintro i ⟨hi, heq⟩
  by_cases hin : i < a.length
  ·obtain ⟨x, hx⟩ : ∃ x, a[i]? = some x := ⟨_, List.getElem?_eq_getElem hin⟩
   obtain ⟨y, hy⟩ : ∃ y, b[i]? = some y := ⟨_, List.getElem?_eq_getElem (by omega)⟩
   repeat' (first|refine Sp.h ?_|refine Lk.r rfl ?_|refine Rf.mk rfl ?_|refine xA ?_|(refine Bd.mk ?_ ?_ <;> intro _)|refine OpK.r rfl ?_|refine xI ?_|refine xN ?_|refine xD ?_|refine xO ?_|fail)
   ·rename_i hxy
    refine PA.lp (i + 1) xE ⟨⟨hin, ?_⟩, by omega⟩
    rw [List.take_add_one, List.take_add_one, hx, hy, heq, show x = y by omega]
   ·rename_i hxy
    refine Fin.p rfl ?_
    rw [decide_eq_false (fun e => hxy ?_)]
    subst e;rw [hx] at hy;cases hy;rfl
  ·have : i = a.length := by omega
   subst this
   repeat' (first|refine Sp.h ?_|refine Lk.r rfl ?_|refine Rf.mk rfl ?_|refine xB ?_|refine xN ?_|fail)
   refine Fin.p rfl ?_
   rw [List.take_length] at heq
   rw [decide_eq_true (by rw [heq, List.take_of_length_le (by omega)])]
 ·rename_i h
  refine Fin.p rfl ?_
  rw [decide_eq_false (fun e => h (by rw [e]))]
/-! ### Valid -/
def rngK (x : Int) : Prop := 0 ≤ x ∧ x ≤ 1024
def ValC (c : List Int) : Prop := (∀ x ∈ c, rngK x) ∧ 1 ≤ c.length ∧ c.length ≤ 5
noncomputable instance (c : List Int) : Decidable (ValC c) := Classical.propDecidable _
theorem validC_p (c : List Int) : CallP Tryz.prog 7 [ints c] (.val (.bool (decide (ValC c)))) := by
 refine CallA.of pg ord7 Tryz.func7 rfl Tryz.ntmps7 Tryz.results7 rfl fun h0 G0 O0 => ?_
 repeat' (first|refine Sp.h ?_|refine Lk.r rfl ?_|refine Rf.mk rfl ?_|refine Im.mk fun _=>?_|fail)
 refine CA.loop (fun i : Nat => ⟨[(0, ints c), (5, ints c), (6, .val (.int .i64 c.length)), (7, .val (.int .i64 i))], []⟩) (fun i => i ≤ c.length ∧ ∀ x ∈ c.take i, rngK x) (fun i => c.length - i) 0 xE ⟨Nat.zero_le _, by simp⟩ ?_
 rintro i ⟨hi, ha⟩
 by_cases hin : i < c.length
 ·obtain ⟨x, hx⟩ := get_of hin
  repeat' (first|refine Sp.h ?_|refine Lk.r rfl ?_|refine Rf.mk rfl ?_|refine xA ?_|refine xB ?_|(refine Bd.mk ?_ ?_ <;> intro _)|refine xI ?_|refine xN ?_|refine xO ?_|fail)
  all_goals first
   | exact PA.lp (i + 1) xE ⟨⟨hin, all_succ hx ha ⟨by omega, by omega⟩⟩, by omega⟩
   | exact Fin.p rfl (vb (decide_eq_false (fun h => by have h1 := h.1 x (List.mem_of_getElem? hx);unfold rngK at h1;omega)).symm)
 ·have : i = c.length := by omega
  subst this
  rw [List.take_length] at ha
  repeat' (first|refine Sp.h ?_|refine Lk.r rfl ?_|refine Rf.mk rfl ?_|refine xA ?_|refine xB ?_|(refine Bd.mk ?_ ?_ <;> intro _)|refine Im.mk fun _=>?_|refine xN ?_|fail)
  all_goals exact Fin.p rfl (vb (by first|exact (decide_eq_false (fun h => by have := h.2;omega)).symm|exact decide_eq_decide.2 ⟨fun h => ⟨ha, by omega, by omega⟩, fun h => by have := h.2;omega⟩))
def HasC (c : List Int) (r n : Int) : Prop := ValC c ∧ 0 ≤ r ∧ 1 ≤ n ∧ ∃ x, c[r.toNat]? = some x ∧ n ≤ x
noncomputable instance (c : List Int) (r n : Int) : Decidable (HasC c r n) := Classical.propDecidable _
abbrev dotC (r n : Int) : AV := .agg [.val (.int .i64 r), .val (.int .i64 n)]
theorem hasC_p (c : List Int) (r n : Int) : CallP Tryz.prog 26 [ints c, dotC r n] (.val (.bool (decide (HasC c r n)))) := by
 refine CallA.of pg ord26 Tryz.func26 rfl Tryz.ntmps26 Tryz.results26 rfl fun h0 G0 O0 => ?_
 by_cases hr : 0 ≤ r ∧ r < c.length
 ·obtain ⟨x, hx⟩ := get_of (l := c) (i := r.toNat) (by omega)
  repeat' (first|refine Sp.h ?_|refine Lk.r rfl ?_|refine Rf.mk rfl ?_|refine OpK.r rfl ?_|refine All.mk fun _=>?_|refine xD ?_|fail)
  refine xQ (validC_p _) ?_
  repeat' (first|refine Sp.h ?_|refine Lk.r rfl ?_|refine Rf.mk rfl ?_|refine xA ?_|refine xB ?_|(refine Bd.mk ?_ ?_ <;> intro _)|refine OpK.r rfl ?_|refine Im.mk fun _=>?_|refine xT ?_|(apply Ix.r;(focus assumption);(focus omega))|refine xN ?_|fail)
  all_goals refine Fin.p rfl (vb ?_)
  all_goals first
   | exact decide_eq_decide.2 ⟨fun h => ⟨by assumption, hr.1, by assumption, x, hx, h⟩, fun ⟨_, _, _, y, hy, h⟩ => by rw [hx] at hy;cases hy;exact h⟩
   | exact (decide_eq_false (fun ⟨_, _, _, y, hy, _⟩ => by have := (List.getElem?_eq_some_iff.1 hy).1;first|contradiction|omega)).symm
 ·repeat' (first|refine Sp.h ?_|refine Lk.r rfl ?_|refine Rf.mk rfl ?_|refine OpK.r rfl ?_|refine All.mk fun _=>?_|refine xD ?_|fail)
  refine xQ (validC_p _) ?_
  repeat' (first|refine Sp.h ?_|refine Lk.r rfl ?_|refine Rf.mk rfl ?_|refine xA ?_|refine xB ?_|(refine Bd.mk ?_ ?_ <;> intro _)|refine OpK.r rfl ?_|refine Im.mk fun _=>?_|refine xT ?_|refine xN ?_|fail)
  all_goals refine Fin.p rfl (vb ?_)
  all_goals exact (decide_eq_false (fun ⟨_, _, _, y, hy, _⟩ => by have := (List.getElem?_eq_some_iff.1 hy).1;first|contradiction|omega)).symm
/-! ### alike, inside -/
def clkC (c : List Int) : List AV := [ints c]
abbrev clks (l : List (List Int)) : AV := .sl 1 l clkC
def AlikeC (l : List (List Int)) : Prop := 0 < l.length ∧ ∀ c ∈ l, ValC c ∧ c.length = (l[0]?.getD []).length
noncomputable instance (l : List (List Int)) : Decidable (AlikeC l) := Classical.propDecidable _
theorem alike_p (l : List (List Int)) : CallP Tryz.prog 99 [clks l] (.val (.bool (decide (AlikeC l)))) := by
 refine CallA.of pg ord99 Tryz.func99 rfl Tryz.ntmps99 Tryz.results99 rfl fun h0 G0 O0 => ?_
 repeat' (first|refine Sp.h ?_|refine Lk.r rfl ?_|refine Rf.mk rfl ?_|refine Im.mk fun _=>?_|fail)
 refine CA.loop (fun i : Nat => ⟨[(0, clks l), (5, clks l), (6, .val (.int .i64 l.length)), (7, .val (.int .i64 i))], []⟩) (fun i => i ≤ l.length ∧ ∀ c ∈ l.take i, ValC c ∧ c.length = (l[0]?.getD []).length) (fun i => l.length - i) 0 xE ⟨Nat.zero_le _, by simp⟩ ?_
 rintro i ⟨hi, ha⟩
 by_cases hin : i < l.length
 ·obtain ⟨c, hc⟩ := get_of hin
  obtain ⟨b, hb⟩ := get_of (l := l) (i := 0) (by omega)
  have hbb : (l[0]?.getD []).length = b.length := by rw [hb];rfl
  repeat' (first|refine Sp.h ?_|refine Lk.r rfl ?_|refine Rf.mk rfl ?_|refine xA ?_|refine xI ?_|fail)
  refine xQ (validC_p _) ?_
  repeat' (first|refine Sp.h ?_|refine Lk.r rfl ?_|refine Rf.mk rfl ?_|refine xA ?_|refine xB ?_|(refine Bd.mk ?_ ?_ <;> intro _)|refine Im.mk fun _=>?_|refine xI ?_|refine xN ?_|refine xO ?_|fail)
  all_goals first
   | exact Fin.p rfl (vb (decide_eq_false (fun h => by have h1 := h.2 c (List.mem_of_getElem? hc);first|exact absurd h1.1 (by assumption)|omega)).symm)
   | exact PA.lp (i + 1) xE ⟨⟨hin, all_succ hc ha ⟨by assumption, by omega⟩⟩, by omega⟩
 ·have : i = l.length := by omega
  subst this
  rw [List.take_length] at ha
  repeat' (first|refine Sp.h ?_|refine Lk.r rfl ?_|refine Rf.mk rfl ?_|refine xB ?_|refine Im.mk fun _=>?_|refine xN ?_|fail)
  exact Fin.p rfl (vb (decide_eq_decide.2 ⟨fun h => ⟨by omega, ha⟩, fun h => by have := h.1;omega⟩))
abbrev CallO (P : Program) (f : FuncId) (args : List AV) {α : Type} (T : TypeId) (sz : Nat) (l : List α) (g : α → List AV) : Prop := CallA P f args [] fun r own => ∃ v, r = .ow v ∧ own = [arrR v T sz l g]
theorem clone_o (l : List Int) (hl : l.length ≤ 1000000000) : CallO Tryz.prog 59 [ints l] 3 1 l intC := by
 refine CallA.of pg ord59 Tryz.func59 rfl Tryz.ntmps59 Tryz.results59 rfl fun h0 G0 O0 => ?_
 repeat' (first|refine Sp.h ?_|refine Lk.r rfl ?_|refine Rf.mk rfl ?_|(refine Bd.mk ?_ ?_ <;> intro _)|refine xP ?_|refine Im.mk fun _=>?_|refine All.mk fun _=>?_|refine xU ?_|refine Ce.l rfl ?_|(apply Fk.r;focus repeat' first|infer_instance|constructor)|refine xN ?_|refine Rf.mk ⟨rfl, rfl⟩ ?_|refine Rf.mk ⟨rfl, rfl, rfl⟩ ?_|refine Mp.same ?_|fail)
 ·rename_i b hb hbt
  have hl0 : l = [] := Decidable.byContradiction fun h => by rw [hb h] at hbt;cases hbt
  subst hl0
  exact ⟨_, _, .one (.nils (.z)), _, rfl, rfl⟩
 ·repeat' (first|fail)
  exact ⟨_, _, .one (.same (.z)), _, rfl, rfl⟩
def Ins (a b : List Int) : Prop := ∀ (i : Nat) (x y : Int), a[i]? = some x → b[i]? = some y → x ≤ y
noncomputable instance (a b : List Int) : Decidable (Ins a b) := Classical.propDecidable _
theorem inside_p (a b : List Int) (hab : a.length ≤ b.length) : CallP Tryz.prog 185 [ints a, ints b] (.val (.bool (decide (Ins a b)))) := by
 refine CallA.of pg ord185 Tryz.func185 rfl Tryz.ntmps185 Tryz.results185 rfl fun h0 G0 O0 => ?_
 repeat' (first|refine Sp.h ?_|refine Lk.r rfl ?_|refine Rf.mk rfl ?_|refine Im.mk fun _=>?_|fail)
 refine CA.loop (fun i : Nat => ⟨[(0, ints a), (1, ints b), (7, .val (.int .i64 a.length)), (8, .val (.int .i64 i))], []⟩) (fun i => i ≤ a.length ∧ ∀ j x y, j < i → a[j]? = some x → b[j]? = some y → x ≤ y) (fun i => a.length - i) 0 xE ⟨Nat.zero_le _, fun j x y h => by omega⟩ ?_
 rintro i ⟨hi, ha⟩
 by_cases hin : i < a.length
 ·obtain ⟨x, hx⟩ := get_of hin
  obtain ⟨y, hy⟩ := get_of (l := b) (i := i) (by omega)
  repeat' (first|refine Sp.h ?_|refine Lk.r rfl ?_|refine Rf.mk rfl ?_|refine xA ?_|(refine Bd.mk ?_ ?_ <;> intro _)|refine OpK.r rfl ?_|refine xI ?_|refine xN ?_|refine xD ?_|refine xO ?_|fail)
  ·rename_i hxy
   exact Fin.p rfl (vb (decide_eq_false (fun h => by have := h i x y hx hy;omega)).symm)
  ·rename_i hxy
   refine PA.lp (i + 1) xE ⟨⟨hin, fun j x' y' hj h1 h2 => ?_⟩, by omega⟩
   by_cases e : j = i
   ·subst e;rw [hx] at h1;rw [hy] at h2;cases h1;cases h2;omega
   ·exact ha j x' y' (by omega) h1 h2
 ·have : i = a.length := by omega
  subst this
  repeat' (first|refine Sp.h ?_|refine Lk.r rfl ?_|refine Rf.mk rfl ?_|refine xB ?_|refine xN ?_|fail)
  exact Fin.p rfl (vb (decide_eq_true (p := Ins a b) (fun j x y h1 h2 => ha j x y (List.getElem?_eq_some_iff.1 h1).1 h1 h2)).symm)
end Go.Proofs.YtajenkpjcbaadaaGreat
namespace Go.Proofs.YtajenkpjcbaadaaGreat
open Go Go.CF
set_option maxRecDepth 20000
theorem alike2 (a b : List Int) : AlikeC [a, b] ↔ ValC a ∧ ValC b ∧ a.length = b.length := by
 unfold AlikeC
 simp
 intro _ _
 exact eq_comm
/-! ### Missing -/
def spanC (s : Int × Int × Int) : List AV := [.val (.int .i64 s.1), .val (.int .i64 s.2.1), .val (.int .i64 s.2.2)]
instance {p q r : Int} : Inv spanC [.val (.int .i64 p), .val (.int .i64 q), .val (.int .i64 r)] (p, q, r) := ⟨rfl⟩
theorem missing_o (a b : List Int) : CallA Tryz.prog 70 [ints a, ints b] [] fun r own => ∃ v l, r = .ow v ∧ own = [arrR v 171 3 l spanC] ∧ (l = [] ↔ (AlikeC [a, b] → Ins b a)) ∧ l.length ≤ 5 := by
 refine CallA.of pg ord70 Tryz.func70 rfl Tryz.ntmps70 Tryz.results70 rfl fun h0 G0 O0 => ?_
 repeat' (first|refine Sp.h ?_|refine Lk.r rfl ?_|refine Rf.mk rfl ?_|refine All.mk fun _=>?_|(apply Fk.r;focus repeat' first|infer_instance|constructor)|refine Rf.mk ⟨rfl, rfl, rfl⟩ ?_|fail)
 rename_i w
 (apply Cl.lend (alike_p [a, b]);(focus repeat' (first|exact Lend.nil|(apply Lend.lendm;(focus repeat constructor);(focus rfl);(focus first|omega|decide|(simp;omega)|exact Nat.le_of_ble_eq_true rfl))|fail)))
 repeat' (first|refine Sp.h ?_|refine Lk.r rfl ?_|refine Rf.mk rfl ?_|(refine Bd.mk ?_ ?_ <;> intro _)|refine Im.mk fun _=>?_|refine xN ?_|fail)
 ·rename_i hal hla
  obtain ⟨hva, hvb, hlab⟩ := (alike2 a b).1 hal
  refine CA.nilOwn 5 171 3 spanC rfl fun w2 => ?_
  refine CA.loop (fun x : Nat × Value × List (Int × Int × Int) => ⟨[(0, ints a), (1, ints b), (13, .val (.int .i64 a.length)), (14, .val (.int .i64 x.1)), (5, .ow x.2.1)], [arrR x.2.1 171 3 x.2.2 spanC]⟩)
   (fun x => x.1 ≤ a.length ∧ x.2.2.length ≤ x.1 ∧ (x.2.2 = [] ↔ ∀ j p q, j < x.1 → a[j]? = some p → b[j]? = some q → q ≤ p)) (fun x => a.length - x.1) (0, w2, []) xE ⟨Nat.zero_le _, Nat.le_refl _, ⟨fun _ j p q h => absurd h (by omega), fun _ => rfl⟩⟩ ?_
  rintro ⟨i, v, l⟩ ⟨hi, hl, hq⟩
  simp only at hi hl hq
  by_cases hin : i < a.length
  ·obtain ⟨x, hx⟩ := get_of hin
   obtain ⟨y, hy⟩ := get_of (l := b) (i := i) (by omega)
   have hrx := hva.1 x (List.mem_of_getElem? hx)
   unfold rngK at hrx
   have hva3 := hva.2
   repeat' (first|refine Sp.h ?_|refine Lk.r rfl ?_|refine Rf.mk rfl ?_|refine xA ?_|(refine Bd.mk ?_ ?_ <;> intro _)|refine OpK.r rfl ?_|refine xP ?_|refine All.mk fun _=>?_|refine xU ?_|refine xI ?_|refine Ce.r ?_|(apply Fk.r;focus repeat' first|infer_instance|constructor)|refine Rf.mk ⟨rfl, rfl⟩ ?_|refine Rf.mk ⟨rfl, rfl, rfl⟩ ?_|(apply Mp.lit;(focus repeat (first|exact MpL.nil|(apply MpL.cons;(focus rfl))|(apply MpL.inv;(focus repeat constructor);(focus infer_instance)))))|refine xD ?_|refine xO ?_|fail)
   ·rename_i hxy _ v2
    refine PA.lp (i + 1, v2, l ++ [((i : Int), x + 1, y)]) xE ⟨⟨hin, by simp;omega, ?_⟩, by simp only;omega⟩
    constructor
    ·intro h;simp at h
    ·intro h;have := h i x y (by simp) hx hy;omega
   ·rename_i hxy
    refine PA.lp (i + 1, v, l) xE ⟨⟨hin, by simp only;omega, hq.trans ⟨fun h j p q hj h1 h2 => ?_, fun h j p q hj h1 h2 => h j p q (by simp only;omega) h1 h2⟩⟩, by simp only;omega⟩
    by_cases e : j = i
    ·subst e;rw [hx] at h1;rw [hy] at h2;cases h1;cases h2;omega
    ·exact h j p q (by simp only at hj;omega) h1 h2
  ·have : i = a.length := by omega
   subst this
   repeat' (first|refine Sp.h ?_|refine Lk.r rfl ?_|refine Rf.mk rfl ?_|refine xB ?_|refine xN ?_|fail)
   exact ⟨_, _, .one (.same (.z)), v, l, rfl, rfl, ⟨fun h _ j p q h1 h2 => hq.1 h j q p (List.getElem?_eq_some_iff.1 h2).1 h2 h1, fun h => hq.2 fun j p q _ h1 h2 => h hal j q p h2 h1⟩, by have := hva.2;omega⟩
 ·exact ⟨_, _, .one (.nils (.z)), _, [], rfl, rfl, ⟨fun _ h => absurd h (by assumption), fun _ => rfl⟩, by simp⟩
/-! ### Zero -/
theorem zero_ok (n : Int) (hn : 1 ≤ n ∧ n ≤ 5) : CallO Tryz.prog 38 [.val (.int .i64 n)] 3 1 (List.replicate n.toNat 0) intC := by
 obtain ⟨m, rfl⟩ : ∃ m : Nat, n = m := ⟨n.toNat, by omega⟩
 refine CallA.of pg ord38 Tryz.func38 rfl Tryz.ntmps38 Tryz.results38 rfl fun h0 G0 O0 => ?_
 repeat' (first|refine Sp.h ?_|refine Lk.r rfl ?_|refine Rf.mk rfl ?_|refine xB ?_|refine All.mk fun _=>?_|refine xN ?_|refine Rf.mk ⟨rfl, rfl, rfl⟩ ?_|(apply Jx.r;(focus exact rfl);(focus first|omega|(simp;done)|(simp;omega)))|refine MkS.r intC 0 rfl ?_|fail)
 exact ⟨_, _, .one (.same (.z)), _, rfl, rfl⟩
/-! ### Compare -/
theorem compare_p (a b : List Int) : CallP Tryz.prog 144 [ints a, ints b] (if AlikeC [a, b] then .tup [.val (.int .i64 (if Ins a b ∧ Ins b a then 0 else if Ins a b then 1 else if Ins b a then 2 else 3)), .val (.int .i64 0)] else .tup [.val (.int .i64 0), .val (.int .i64 1)]) := by
 refine CallA.of pg ord144 Tryz.func144 rfl Tryz.ntmps144 Tryz.results144 rfl fun h0 G0 O0 => ?_
 repeat' (first|refine Sp.h ?_|refine Lk.r rfl ?_|refine Rf.mk rfl ?_|refine All.mk fun _=>?_|(apply Fk.r;focus repeat' first|infer_instance|constructor)|refine Rf.mk ⟨rfl, rfl, rfl⟩ ?_|fail)
 (apply Cl.lend (alike_p [a, b]);(focus repeat' (first|exact Lend.nil|(apply Lend.lendm;(focus repeat constructor);(focus rfl);(focus first|omega|decide|(simp;omega)|exact Nat.le_of_ble_eq_true rfl))|fail)))
 by_cases hal : AlikeC [a, b]
 ·obtain ⟨_, _, hlab⟩ := (alike2 a b).1 hal
  have l1 : a.length ≤ b.length := by omega
  have l2 : b.length ≤ a.length := by omega
  repeat' (first|refine Sp.h ?_|refine Lk.r rfl ?_|refine Rf.mk rfl ?_|refine xA ?_|fail)
  refine xQ (inside_p a b l1) ?_
  repeat' (first|refine Sp.h ?_|refine Lk.r rfl ?_|refine Rf.mk rfl ?_|fail)
  refine xQ (inside_p b a l2) ?_
  repeat' (first|refine Sp.h ?_|refine Lk.r rfl ?_|refine Rf.mk rfl ?_|refine xA ?_|refine xB ?_|(refine Bd.mk ?_ ?_ <;> intro _)|refine xN ?_|fail)
  all_goals refine Fin.p rfl ?_
  all_goals rw [if_pos hal]
  all_goals simp only [*, and_self, and_true, if_true, if_false, and_false]
 ·repeat' (first|refine Sp.h ?_|refine Lk.r rfl ?_|refine Rf.mk rfl ?_|refine xB ?_|refine xN ?_|fail)
  exact Fin.p rfl (by rw [if_neg hal])
end Go.Proofs.YtajenkpjcbaadaaGreat
namespace Go.Proofs.YtajenkpjcbaadaaGreat
open Go Go.CF
set_option maxRecDepth 20000
def zipC (op : Int → Int → Int) (a b : List Int) : List Int := List.zipWith op a b
def foldC (op : Int → Int → Int) (l : List (List Int)) : List Int := l.tail.foldl (zipC op) (l.headD [])
theorem zip_step {op : Int → Int → Int} {a c : List Int} {i : Nat} {x y : Int} (ha : a[i]? = some x) (hc : c[i]? = some y) (hl : a.length = c.length) :
  ((zipC op a c).take i ++ a.drop i).set i (op x y) = (zipC op a c).take (i + 1) ++ a.drop (i + 1) := by
 have hz : (zipC op a c)[i]? = some (op x y) := by simp [zipC, List.getElem?_zipWith, ha, hc]
 have hi := (List.getElem?_eq_some_iff.1 ha).1
 have hzl : (zipC op a c).length = a.length := by simp [zipC];omega
 apply List.ext_getElem?
 intro j
 rw [List.getElem?_set]
 have htl : ((zipC op a c).take i).length = i := by simp;omega
 have htl2 : ((zipC op a c).take (i + 1)).length = i + 1 := by simp;omega
 by_cases hij : i = j
 ·subst hij
  rw [if_pos rfl, if_pos (by simp;omega), List.getElem?_append_left (by omega), List.getElem?_take, if_pos (by omega), hz]
 ·rw [if_neg hij]
  by_cases hj : j < i
  ·rw [List.getElem?_append_left (by omega), List.getElem?_append_left (by omega), List.getElem?_take, List.getElem?_take, if_pos hj, if_pos (by omega)]
  ·rw [List.getElem?_append_right (by omega), List.getElem?_append_right (by omega), htl, htl2, List.getElem?_drop, List.getElem?_drop]
   congr 1;omega
theorem zip_at {op : Int → Int → Int} {a c : List Int} {i : Nat} {x : Int} (ha : a[i]? = some x) (hl : a.length = c.length) : ((zipC op a c).take i ++ a.drop i)[i]? = some x := by
 have hi := (List.getElem?_eq_some_iff.1 ha).1
 have hzl : (zipC op a c).length = a.length := by simp [zipC];omega
 have htl : ((zipC op a c).take i).length = i := by simp;omega
 rw [List.getElem?_append_right (by omega), htl, Nat.sub_self, List.getElem?_drop]
 simpa using ha

set_option maxHeartbeats 1000000 in

theorem zipC_len {op : Int → Int → Int} {a c : List Int} (h : a.length = c.length) : (zipC op a c).length = a.length := by simp [zipC];omega
def foldN (op : Int → Int → Int) (d : List Int) (r : List (List Int)) (i : Nat) : List Int := (r.take i).foldl (zipC op) d
theorem foldN_succ {op : Int → Int → Int} {d : List Int} {r : List (List Int)} {i : Nat} {c : List Int} (h : r[i]? = some c) : foldN op d r (i + 1) = zipC op (foldN op d r i) c := by
 unfold foldN
 rw [List.take_add_one, h]
 simp
theorem foldN_len {op : Int → Int → Int} {d : List Int} {r : List (List Int)} (h : ∀ c ∈ r, c.length = d.length) : ∀ i, (foldN op d r i).length = d.length
 | 0 => rfl
 | i + 1 => by
  cases hr : r[i]? with
  | none =>
   have := foldN_len h (op := op) i
   unfold foldN at this ⊢
   rw [List.take_add_one, hr]
   simpa using this
  | some c =>
   have ih := foldN_len h (op := op) i
   rw [foldN_succ hr, zipC_len (by rw [ih, h c (List.mem_of_getElem? hr)]), ih]
theorem fold_o {g : FuncId} {op : Int → Int → Int} (hg : ∀ x y, CallP Tryz.prog g [.val (.int .i64 x), .val (.int .i64 y)] (.val (.int .i64 (op x y)))) (he : en g = true) (d : List Int) (r : List (List Int)) (hal : AlikeC (d :: r)) :
  CallO Tryz.prog 49 [.fn g [], clks (d :: r)] 3 1 ((d :: r).tail.foldl (zipC op) d) intC := by
 have hd := hal.2 d (by simp)
 have hd2 := hd.1.2
 have hr : ∀ c ∈ r, c.length = d.length := fun c hc => (hal.2 c (by simp [hc])).2
 have hd0 : (d :: r)[0]? = some d := rfl
 refine CallA.of pg ord49 Tryz.func49 rfl Tryz.ntmps49 Tryz.results49 rfl fun h0 G0 O0 => ?_
 repeat' (first|refine Sp.h ?_|refine Lk.r rfl ?_|refine Rf.mk rfl ?_|fail)
 refine xQ (alike_p _) ?_
 repeat' (first|refine Sp.h ?_|refine Lk.r rfl ?_|refine Rf.mk rfl ?_|refine xA ?_|refine xI ?_|fail)
 have hl : d.length ≤ 1000000000 := by omega
 (refine Cl.use (clone_o d hl) (by repeat' (first|exact Lend.nil|apply Lend.keep|fail)) .nil rfl ?_;rintro _ _ ⟨_, rfl, rfl⟩)
 repeat' (first|refine Sp.h ?_|refine Lk.r rfl ?_|refine Rf.mk rfl ?_|refine Im.mk fun _=>?_|(apply Jx.r;(focus exact rfl);(focus first|omega|(simp;done)|(simp;omega)))|fail)
 rw [show List.take ((d :: r).length - 1) (List.drop 1 (d :: r)) = r by simp]
 repeat' (first|fail)
 rename_i w hrl
 have hrl : r.length ≤ 9223372036854775807 := by simpa using hrl
 refine CA.loop (fun x : Nat × Value => ⟨[(0, .fn g []), (18, clks r), (19, .val (.int .i64 r.length)), (20, .val (.int .i64 x.1)), (5, .ow x.2)], [arrR x.2 3 1 (foldN op d r x.1) intC]⟩)
  (fun x => x.1 ≤ r.length) (fun x => r.length - x.1) (0, w) xE (Nat.zero_le _) ?_
 rintro ⟨k, v⟩ hk
 simp only at hk
 by_cases hin : k < r.length
 ·obtain ⟨c, hc⟩ := get_of hin
  have hcl := hr c (List.mem_of_getElem? hc)
  have hfl := foldN_len (op := op) hr k
  repeat' (first|refine Sp.h ?_|refine Lk.r rfl ?_|refine Rf.mk rfl ?_|refine xA ?_|refine Im.mk fun _=>?_|refine xI ?_|fail)
  obtain ⟨A, hA⟩ : ∃ A, A = foldN op d r k := ⟨_, rfl⟩
  rw [← hA] at hfl
  refine CA.loop (fun x : Nat × Value => ⟨[(0, .fn g []), (18, clks r), (19, .val (.int .i64 r.length)), (20, .val (.int .i64 k)), (24, ints c), (25, .val (.int .i64 c.length)), (26, .val (.int .i64 x.1)), (5, .ow x.2)], [arrR x.2 3 1 ((zipC op A c).take x.1 ++ A.drop x.1) intC]⟩)
   (fun x => x.1 ≤ c.length) (fun x => c.length - x.1) (0, v) (by subst hA;exact xE) (Nat.zero_le _) ?_
  rintro ⟨i, v⟩ hi
  simp only at hi
  by_cases hic : i < c.length
  ·obtain ⟨y, hy⟩ := get_of hic
   obtain ⟨x, hx⟩ := get_of (l := A) (i := i) (by omega)
   have hat := zip_at (op := op) (c := c) hx (by omega)
   have hst := zip_step (op := op) hx hy (by omega)
   repeat' (first|refine Sp.h ?_|refine Lk.r rfl ?_|refine Rf.mk rfl ?_|refine xA ?_|refine xU ?_|refine xI ?_|refine xJ ?_|(apply Rf.mk;(focus assumption))|fail)
   refine xQ (hg x y) ?_
   repeat' (first|refine Sp.h ?_|refine Lk.r rfl ?_|refine Rf.mk rfl ?_|refine xU ?_|refine xI ?_|refine xJ ?_|refine xV ?_|refine Up.r rfl ?_|refine xO ?_|fail)
   rw [hst]
   exact PA.lp (i + 1, v) xE ⟨hic, by simp only;omega⟩
  ·have : i = c.length := by omega
   subst this
   have e1 : (zipC op A c).take c.length ++ A.drop c.length = zipC op A c := by
    rw [List.drop_of_length_le (by omega), List.append_nil, List.take_of_length_le (by rw [zipC_len (by omega)];omega)]
   simp only [e1]
   repeat' (first|refine Sp.h ?_|refine Lk.r rfl ?_|refine Rf.mk rfl ?_|refine xB ?_|refine xO ?_|fail)
   refine PA.lp (k + 1, v) (by rw [foldN_succ hc, ← hA];exact xE) ⟨hin, by simp only;omega⟩
 ·have : k = r.length := by omega
  subst this
  repeat' (first|refine Sp.h ?_|refine Lk.r rfl ?_|refine Rf.mk rfl ?_|refine xB ?_|refine xN ?_|fail)
  have e1 : foldN op d r r.length = (d :: r).tail.foldl (zipC op) d := by simp [foldN]
  simp only [e1]
  exact ⟨_, _, .one (.same (.z)), _, rfl, rfl⟩
theorem join1_p (x y : Int) : CallP Tryz.prog 50 [.val (.int .i64 x), .val (.int .i64 y)] (.val (.int .i64 (max x y))) := by
 refine CallA.of pg ord50 Tryz.func50 rfl Tryz.ntmps50 Tryz.results50 rfl fun h0 G0 O0 => ?_
 repeat' (first|refine Sp.h ?_|refine Lk.r rfl ?_|refine Rf.mk rfl ?_|refine xN ?_|fail)
 exact Fin.p rfl rfl
theorem meet1_p (x y : Int) : CallP Tryz.prog 65 [.val (.int .i64 x), .val (.int .i64 y)] (.val (.int .i64 (min x y))) := by
 refine CallA.of pg ord65 Tryz.func65 rfl Tryz.ntmps65 Tryz.results65 rfl fun h0 G0 O0 => ?_
 repeat' (first|refine Sp.h ?_|refine Lk.r rfl ?_|refine Rf.mk rfl ?_|refine xN ?_|fail)
 exact Fin.p rfl rfl
theorem alike_cons {l : List (List Int)} (h : AlikeC l) : ∃ d r, l = d :: r := by
 cases l with
 | nil => exact absurd h.1 (by simp)
 | cons d r => exact ⟨d, r, rfl⟩
theorem join_o (l : List (List Int)) (hal : AlikeC l) : CallO Tryz.prog 12 [clks l] 3 1 (foldC max l) intC := by
 obtain ⟨d, r, rfl⟩ := alike_cons hal
 refine CallA.of pg ord12 Tryz.func12 rfl Tryz.ntmps12 Tryz.results12 rfl fun h0 G0 O0 => ?_
 repeat' (first|refine Sp.h ?_|refine Lk.r rfl ?_|refine Rf.mk rfl ?_|fail)
 have he : en 50 = true := rfl
 (refine Cl.use (fold_o join1_p he d r hal) (by repeat' (first|exact Lend.nil|apply Lend.keep|fail)) .nil rfl ?_;rintro _ _ ⟨_, rfl, rfl⟩)
 repeat' (first|refine Sp.h ?_|refine Lk.r rfl ?_|refine xN ?_|fail)
 exact ⟨_, _, .one (.same (.z)), _, rfl, rfl⟩
theorem meet_o (l : List (List Int)) (hal : AlikeC l) : CallO Tryz.prog 25 [clks l] 3 1 (foldC min l) intC := by
 obtain ⟨d, r, rfl⟩ := alike_cons hal
 refine CallA.of pg ord25 Tryz.func25 rfl Tryz.ntmps25 Tryz.results25 rfl fun h0 G0 O0 => ?_
 repeat' (first|refine Sp.h ?_|refine Lk.r rfl ?_|refine Rf.mk rfl ?_|fail)
 have he : en 65 = true := rfl
 (refine Cl.use (fold_o meet1_p he d r hal) (by repeat' (first|exact Lend.nil|apply Lend.keep|fail)) .nil rfl ?_;rintro _ _ ⟨_, rfl, rfl⟩)
 repeat' (first|refine Sp.h ?_|refine Lk.r rfl ?_|refine xN ?_|fail)
 exact ⟨_, _, .one (.same (.z)), _, rfl, rfl⟩
end Go.Proofs.YtajenkpjcbaadaaGreat
namespace Go.Proofs.YtajenkpjcbaadaaGreat
open Go Go.CF
set_option maxRecDepth 20000
theorem validR_p (c : List Int) : CallP Tryz.prog 66 [ints c] (.val (.bool (decide (ValC c)))) := by
 refine CallA.of pg ord66 Tryz.func66 rfl Tryz.ntmps66 Tryz.results66 rfl fun h0 G0 O0 => ?_
 repeat' (first|refine Sp.h ?_|refine Lk.r rfl ?_|refine Rf.mk rfl ?_|fail)
 refine CA.loop (fun i : Nat => ⟨[(0, ints c), (3, .val (.int .i64 i))], []⟩) (fun i => i ≤ c.length ∧ ∀ x ∈ c.take i, rngK x) (fun i => c.length - i) 0 xE ⟨Nat.zero_le _, by simp⟩ ?_
 rintro i ⟨hi, ha⟩
 by_cases hin : i < c.length
 ·obtain ⟨x, hx⟩ := get_of hin
  repeat' (first|refine Sp.h ?_|refine Lk.r rfl ?_|refine Rf.mk rfl ?_|refine xA ?_|refine xB ?_|(refine Bd.mk ?_ ?_ <;> intro _)|refine Im.mk fun _=>?_|refine xI ?_|refine xN ?_|refine xO ?_|fail)
  all_goals first
   | exact PA.lp (i + 1) xE ⟨⟨hin, all_succ hx ha ⟨by omega, by omega⟩⟩, by omega⟩
   | exact Fin.p rfl (vb (decide_eq_false (fun h => by have h1 := h.1 x (List.mem_of_getElem? hx);unfold rngK at h1;omega)).symm)
 ·have : i = c.length := by omega
  subst this
  rw [List.take_length] at ha
  repeat' (first|refine Sp.h ?_|refine Lk.r rfl ?_|refine Rf.mk rfl ?_|refine xA ?_|refine xB ?_|(refine Bd.mk ?_ ?_ <;> intro _)|refine Im.mk fun _=>?_|refine xN ?_|fail)
  all_goals exact Fin.p rfl (vb (by first|exact (decide_eq_false (fun h => by have := h.2;omega)).symm|exact decide_eq_decide.2 ⟨fun h => ⟨ha, by omega, by omega⟩, fun h => by have := h.2;omega⟩))
theorem hasR_p (c : List Int) (r n : Int) : CallP Tryz.prog 68 [ints c, dotC r n] (.val (.bool (decide (HasC c r n)))) := by
 refine CallA.of pg ord68 Tryz.func68 rfl Tryz.ntmps68 Tryz.results68 rfl fun h0 G0 O0 => ?_
 by_cases hr : 0 ≤ r ∧ r < c.length
 ·obtain ⟨x, hx⟩ := get_of (l := c) (i := r.toNat) (by omega)
  repeat' (first|refine Sp.h ?_|refine Lk.r rfl ?_|refine Rf.mk rfl ?_|refine OpK.r rfl ?_|refine All.mk fun _=>?_|refine xD ?_|fail)
  refine xQ (validR_p _) ?_
  repeat' (first|refine Sp.h ?_|refine Lk.r rfl ?_|refine Rf.mk rfl ?_|refine xA ?_|refine xB ?_|(refine Bd.mk ?_ ?_ <;> intro _)|refine OpK.r rfl ?_|refine Im.mk fun _=>?_|refine xT ?_|(apply Ix.r;(focus assumption);(focus omega))|refine xN ?_|fail)
  all_goals refine Fin.p rfl (vb ?_)
  all_goals first
   | exact decide_eq_decide.2 ⟨fun h => ⟨by assumption, hr.1, by assumption, x, hx, h⟩, fun ⟨_, _, _, y, hy, h⟩ => by rw [hx] at hy;cases hy;exact h⟩
   | exact (decide_eq_false (fun ⟨_, _, _, y, hy, _⟩ => by have := (List.getElem?_eq_some_iff.1 hy).1;first|contradiction|omega)).symm
 ·repeat' (first|refine Sp.h ?_|refine Lk.r rfl ?_|refine Rf.mk rfl ?_|refine OpK.r rfl ?_|refine All.mk fun _=>?_|refine xD ?_|fail)
  refine xQ (validR_p _) ?_
  repeat' (first|refine Sp.h ?_|refine Lk.r rfl ?_|refine Rf.mk rfl ?_|refine xA ?_|refine xB ?_|(refine Bd.mk ?_ ?_ <;> intro _)|refine OpK.r rfl ?_|refine Im.mk fun _=>?_|refine xT ?_|refine xN ?_|fail)
  all_goals refine Fin.p rfl (vb ?_)
  all_goals exact (decide_eq_false (fun ⟨_, _, _, y, hy, _⟩ => by have := (List.getElem?_eq_some_iff.1 hy).1;first|contradiction|omega)).symm
theorem insideR_p (a b : List Int) : CallP Tryz.prog 28 [ints a, ints b] (.val (.bool (decide (Ins a b)))) := by
 refine CallA.of pg ord28 Tryz.func28 rfl Tryz.ntmps28 Tryz.results28 rfl fun h0 G0 O0 => ?_
 repeat' (first|refine Sp.h ?_|refine Lk.r rfl ?_|refine Rf.mk rfl ?_|fail)
 refine CA.loop (fun i : Nat => ⟨[(0, ints a), (1, ints b), (5, .val (.int .i64 i))], []⟩) (fun i => i ≤ a.length ∧ ∀ j x y, j < i → a[j]? = some x → b[j]? = some y → x ≤ y) (fun i => a.length - i) 0 xE ⟨Nat.zero_le _, fun j x y h => by omega⟩ ?_
 rintro i ⟨hi, ha⟩
 by_cases hin : i < a.length ∧ i < b.length
 ·obtain ⟨x, hx⟩ := get_of hin.1
  obtain ⟨y, hy⟩ := get_of hin.2
  repeat' (first|refine Sp.h ?_|refine Lk.r rfl ?_|refine Rf.mk rfl ?_|refine xA ?_|(refine Bd.mk ?_ ?_ <;> intro _)|refine OpK.r rfl ?_|refine Im.mk fun _=>?_|refine xI ?_|refine xN ?_|refine xD ?_|refine xO ?_|fail)
  ·rename_i hxy
   exact Fin.p rfl (vb (decide_eq_false (fun h => by have := h i x y hx hy;omega)).symm)
  ·rename_i hxy
   refine PA.lp (i + 1) xE ⟨⟨hin.1, fun j x' y' hj h1 h2 => ?_⟩, by omega⟩
   by_cases e : j = i
   ·subst e;rw [hx] at h1;rw [hy] at h2;cases h1;cases h2;omega
   ·exact ha j x' y' (by omega) h1 h2
 ·repeat' (first|refine Sp.h ?_|refine Lk.r rfl ?_|refine Rf.mk rfl ?_|refine xA ?_|refine xB ?_|(refine Bd.mk ?_ ?_ <;> intro _)|refine Im.mk fun _=>?_|refine xN ?_|fail)
  all_goals exact Fin.p rfl (vb (decide_eq_true (p := Ins a b) (fun j x y h1 h2 => ha j x y (by have := (List.getElem?_eq_some_iff.1 h1).1;have := (List.getElem?_eq_some_iff.1 h2).1;omega) h1 h2)).symm)
theorem intsR_p (a b : List Int) : CallP Tryz.prog 62 [ints a, ints b] (.val (.bool (decide (a = b)))) := by
 refine CallA.of pg ord62 Tryz.func62 rfl Tryz.ntmps62 Tryz.results62 rfl fun h0 G0 O0 => ?_
 repeat' (first|refine Sp.h ?_|refine Lk.r rfl ?_|refine Rf.mk rfl ?_|(refine Bd.mk ?_ ?_ <;> intro _)|refine Im.mk fun _=>?_|refine xN ?_|fail)
 ·refine CA.loop (fun i : Nat => ⟨[(0, ints a), (1, ints b), (5, .val (.int .i64 i))], []⟩) (fun i => i ≤ a.length ∧ a.take i = b.take i) (fun i => a.length - i) 0 xE ⟨Nat.zero_le _, by simp⟩ ?_
  rintro i ⟨hi, heq⟩
  by_cases hin : i < a.length
  ·obtain ⟨x, hx⟩ := get_of hin
   obtain ⟨y, hy⟩ := get_of (l := b) (i := i) (by omega)
   repeat' (first|refine Sp.h ?_|refine Lk.r rfl ?_|refine Rf.mk rfl ?_|refine xA ?_|(refine Bd.mk ?_ ?_ <;> intro _)|refine OpK.r rfl ?_|refine Im.mk fun _=>?_|refine xI ?_|refine xN ?_|refine xD ?_|refine xO ?_|fail)
   ·refine PA.lp (i + 1) xE ⟨⟨hin, ?_⟩, by omega⟩
    rw [List.take_add_one, List.take_add_one, hx, hy, heq, show x = y by omega]
   ·rename_i hxy
    refine Fin.p rfl (vb (decide_eq_false (fun e => hxy ?_)).symm)
    subst e;rw [hx] at hy;cases hy;rfl
  ·have : i = a.length := by omega
   subst this
   repeat' (first|refine Sp.h ?_|refine Lk.r rfl ?_|refine Rf.mk rfl ?_|refine xB ?_|refine Im.mk fun _=>?_|refine xN ?_|fail)
   refine Fin.p rfl (vb (decide_eq_true ?_).symm)
   rw [List.take_length] at heq
   rw [heq, List.take_of_length_le (by omega)]
 ·rename_i h
  exact Fin.p rfl (vb (decide_eq_false (fun e => h (by rw [e]))).symm)
/-! ### Events -/
structure EvS where
 rep : Int
 num : Int
 time : Int
 past : List Int
 kind : Int
 action : Int
 gk : Int
 gi : Int
 ge : Int
 ga : Int
 to : Int
 place : Int
 serial : Int
abbrev iv (x : Int) : AV := .val (.int .i64 x)
def evC (e : EvS) : List AV := [iv e.rep, iv e.num, iv e.time, ints e.past, iv e.kind, iv e.action, iv e.gk, iv e.gi, iv e.ge, iv e.ga, iv e.to, iv e.place, iv e.serial]
abbrev evA' (e : EvS) : AV := .agg (evC e)
abbrev evs (l : List EvS) : AV := .sl 13 l evC
theorem name_p (e : EvS) : CallP Tryz.prog 55 [evA' e] (dotC e.rep e.num) := by
 refine CallA.of pg ord55 Tryz.func55 rfl Tryz.ntmps55 Tryz.results55 rfl fun h0 G0 O0 => ?_
 repeat' (first|refine Sp.h ?_|refine Lk.r rfl ?_|refine Rf.mk rfl ?_|refine All.mk fun _=>?_|refine xT ?_|(apply SetAsk.r;focus repeat' constructor)|(apply Fk.r;focus repeat' first|infer_instance|constructor)|refine xN ?_|fail)
 exact Fin.p rfl rfl
theorem nameR_p (e : EvS) : CallP Tryz.prog 27 [evA' e] (dotC e.rep e.num) := by
 refine CallA.of pg ord27 Tryz.func27 rfl Tryz.ntmps27 Tryz.results27 rfl fun h0 G0 O0 => ?_
 repeat' (first|refine Sp.h ?_|refine Lk.r rfl ?_|refine Rf.mk rfl ?_|refine All.mk fun _=>?_|refine xT ?_|(apply SetAsk.r;focus repeat' constructor)|(apply Fk.r;focus repeat' first|infer_instance|constructor)|refine xN ?_|fail)
 exact Fin.p rfl rfl
def Btw (n lo hi : Int) : Prop := lo ≤ n ∧ n ≤ hi
instance (n lo hi : Int) : Decidable (Btw n lo hi) := inferInstanceAs (Decidable (_ ∧ _))
theorem between_p (n lo hi : Int) : CallP Tryz.prog 141 [iv n, iv lo, iv hi] (.val (.bool (decide (Btw n lo hi)))) := by
 refine CallA.of pg ord141 Tryz.func141 rfl Tryz.ntmps141 Tryz.results141 rfl fun h0 G0 O0 => ?_
 repeat' (first|refine Sp.h ?_|refine Lk.r rfl ?_|refine Rf.mk rfl ?_|refine xA ?_|refine xB ?_|(refine Bd.mk ?_ ?_ <;> intro _)|refine xN ?_|fail)
 all_goals refine Fin.p rfl (vb ?_)
 ·exact decide_eq_decide.2 (by unfold Btw;omega)
 ·exact (decide_eq_false (by unfold Btw;omega)).symm
end Go.Proofs.YtajenkpjcbaadaaGreat
namespace Go.Proofs.YtajenkpjcbaadaaGreat
open Go Go.CF
set_option maxRecDepth 20000
theorem rdInt : RdT Tryz.prog 3 (Rp.int .i64) := RdT.int Tryz.underlying3 (by kernel_rfl)
theorem rdInts : RdT Tryz.prog 22 (Rp.int .i64).slice := RdT.slice Tryz.underlying22 (by kernel_rfl) rdInt (by decide)
abbrev RightT := Int × Int × Int × Unit
def Rp.rightT : Rp RightT := (Rp.int .i64).pair ((Rp.int .i64).pair ((Rp.int .i64).pair Rp.unit))
theorem rdRight : RdT Tryz.prog 36 Rp.rightT := RdT.struct Tryz.underlying36 rfl (by kernel_rfl) (RdF.cons rfl rdInt rfl (RdF.cons rfl rdInt rfl (RdF.cons rfl rdInt rfl RdF.nil)))
abbrev NeedT := RightT × Int × Unit
def Rp.needT : Rp NeedT := Rp.rightT.pair ((Rp.int .i64).pair Rp.unit)
theorem rdNeed : RdT Tryz.prog 38 Rp.needT := RdT.struct Tryz.underlying38 rfl (by kernel_rfl) (RdF.cons rfl rdRight rfl (RdF.cons rfl rdInt rfl RdF.nil))
abbrev EventT := Int × Int × Int × List Int × Int × Int × NeedT × Int × Int × Int × Unit
def Rp.eventT : Rp EventT := (Rp.int .i64).pair ((Rp.int .i64).pair ((Rp.int .i64).pair ((Rp.int .i64).slice.pair ((Rp.int .i64).pair ((Rp.int .i64).pair (Rp.needT.pair ((Rp.int .i64).pair ((Rp.int .i64).pair ((Rp.int .i64).pair Rp.unit)))))))))
theorem rdEvent : RdT Tryz.prog 40 Rp.eventT := RdT.struct Tryz.underlying40 rfl (by kernel_rfl)
 (RdF.cons rfl rdInt rfl (RdF.cons rfl rdInt rfl (RdF.cons rfl rdInt rfl (RdF.cons rfl rdInts rfl (RdF.cons rfl rdInt rfl (RdF.cons rfl rdInt rfl (RdF.cons rfl rdNeed rfl (RdF.cons rfl rdInt rfl (RdF.cons rfl rdInt rfl (RdF.cons rfl rdInt rfl RdF.nil))))))))))
def evOf : EventT → EvS
 | (rep, num, time, past, kind, action, ((gk, gi, ge, ()), ga, ()), to, place, serial, ()) =>
  { rep := rep, num := num, time := time, past := past, kind := kind, action := action, gk := gk, gi := gi, ge := ge, ga := ga, to := to, place := place, serial := serial }
def evIn (e : EvS) : EventT := (e.rep, e.num, e.time, e.past, e.kind, e.action, ((e.gk, e.gi, e.ge, ()), e.ga, ()), e.to, e.place, e.serial, ())
def Rp.event : Rp EvS := Rp.eventT.iso evIn
theorem rdEv : RdT Tryz.prog 40 Rp.event := RdT.iso rdEvent evIn evOf (fun _ => rfl)
theorem rdEvs : RdT Tryz.prog 31 Rp.event.slice := RdT.slice Tryz.underlying31 (by kernel_rfl) rdEv (by decide)
theorem avInts : Avr (Rp.int .i64).slice fun l => [ints l] := Avr.int.slice
theorem avEvent : Avr Rp.event evC :=
 ((Avr.int.pair (Avr.int.pair (Avr.int.pair (avInts.pair (Avr.int.pair (Avr.int.pair (((Avr.int.pair (Avr.int.pair (Avr.int.pair Avr.unit))).pair (Avr.int.pair Avr.unit)).pair (Avr.int.pair (Avr.int.pair (Avr.int.pair Avr.unit)))))))))).iso evIn).cast fun _ => rfl
theorem avEvs : Avr Rp.event.slice fun l => [evs l] := avEvent.slice
end Go.Proofs.YtajenkpjcbaadaaGreat
namespace Go.Proofs.YtajenkpjcbaadaaGreat
open Go Go.CF Go.ChangeShapes Go.WideShapes Go.ChangeAt Go.RowKit
set_option maxRecDepth 100000

theorem knob : ownKnob Tryz.prog.godebug = none := by kernel_rfl
theorem laid : laidOutB Tryz.prog = true := by kernel_rfl
theorem sliceArg {W : World} {r : Reach} {b : Nat} {t e : TypeId} {v : Value} {α : Type} {R : Rp α} {l : List α} (ht : Tryz.prog.underlying t = some (.slice e)) (hv : Value.okWide Tryz.prog W r b t v) (h : R.slice.R W.heap (Old W.heap) v.cells.toList l) : R.slice.R W.heap (Old W.heap) [v] l := by
 rw [CF.okWide_slice ht hv] at h;exact h
end Go.Proofs.YtajenkpjcbaadaaGreat
namespace Go.CF
open Go Go.ChangeShapes Go.WideShapes Go.ChangeAt Go.RowKit
def Rp.str : Rp ByteArray where
 sz := 1
 R := fun _ _ cs a => cs = [.string a]
 len := by rintro _ _ _ _ rfl;rfl
 one := by rintro _ _ _ _ rfl u hu;simp at hu;subst hu;rfl
 stp := fun _ _ h => h
 mono := fun _ h => h
 lt := fun h => h
theorem RdT.str {P : Program} {t : TypeId} (ht : P.underlying t = some .string) (hc : P.cellsOf t = 1) : RdT P t Rp.str :=
 ⟨hc, fun h => by obtain ⟨b, h1, _⟩ := DataW.trod_string ht h;exact ⟨b, h1⟩⟩
theorem Avr.str : Avr Rp.str fun s => [.val (.string s)] := ⟨by rintro _ _ _ _ rfl;exact ⟨⟨rfl, trivial⟩, fun u hu => by rw [List.mem_singleton.1 hu];rfl⟩⟩
theorem Avr.bool : Avr Rp.bool fun b => [.val (.bool b)] := ⟨by rintro _ _ _ _ rfl;exact ⟨⟨rfl, trivial⟩, fun u hu => by rw [List.mem_singleton.1 hu];rfl⟩⟩
theorem Avr.agg {α : Type} {r : Rp α} {f : α → List AV} (ha : Avr r f) {h : Heap} {F : Nat → Prop} {v : Value} {a : α} (hv : v = .agg v.cells) (hr : r.R h F v.cells.toList a) : (AV.agg (f a)).R h F v := ⟨v.cells.toList, by simpa using hv, ha.rep hr⟩
end Go.CF
namespace Go.Proofs.YtajenkpjcbaadaaGreat
open Go Go.CF
set_option maxRecDepth 20000
abbrev sv (s : ByteArray) : AV := .val (.string s)
def isWhite (x : Int) : Prop := x = 9 ∨ x = 10 ∨ x = 13 ∨ x = 32
noncomputable instance (x : Int) : Decidable (isWhite x) := Classical.propDecidable _
theorem white_p (x : Int) : CallP Tryz.prog 231 [.val (.int .u8 x)] (.val (.bool (decide (isWhite x)))) := by
 refine CallA.of pg ord231 Tryz.func231 rfl Tryz.ntmps231 Tryz.results231 rfl fun h0 G0 O0 => ?_
 repeat' (first|refine Sp.h ?_|refine Lk.r rfl ?_|refine Rf.mk rfl ?_|refine xA ?_|refine xB ?_|(refine Bd.mk ?_ ?_ <;> intro _)|refine xN ?_|fail)
 all_goals refine Fin.p rfl (vb ?_)
 all_goals first
  | exact decide_eq_decide.2 (by unfold isWhite;omega)
  | exact (decide_eq_true (by unfold isWhite;omega)).symm
def isLetter (x : Int) : Prop := 97 ≤ x ∧ x ≤ 122
noncomputable instance (x : Int) : Decidable (isLetter x) := Classical.propDecidable _
theorem letter_p (x : Int) : CallP Tryz.prog 232 [.val (.int .u8 x)] (.val (.bool (decide (isLetter x)))) := by
 refine CallA.of pg ord232 Tryz.func232 rfl Tryz.ntmps232 Tryz.results232 rfl fun h0 G0 O0 => ?_
 repeat' (first|refine Sp.h ?_|refine Lk.r rfl ?_|refine Rf.mk rfl ?_|refine xA ?_|refine xB ?_|(refine Bd.mk ?_ ?_ <;> intro _)|refine xN ?_|fail)
 all_goals refine Fin.p rfl (vb ?_)
 all_goals first
  | exact decide_eq_decide.2 (by unfold isLetter;omega)
  | exact (decide_eq_false (by unfold isLetter;omega)).symm
def isDigit (x : Int) : Prop := 48 ≤ x ∧ x ≤ 57
noncomputable instance (x : Int) : Decidable (isDigit x) := Classical.propDecidable _
theorem digit_p (x : Int) : CallP Tryz.prog 233 [.val (.int .u8 x)] (.val (.bool (decide (isDigit x)))) := by
 refine CallA.of pg ord233 Tryz.func233 rfl Tryz.ntmps233 Tryz.results233 rfl fun h0 G0 O0 => ?_
 repeat' (first|refine Sp.h ?_|refine Lk.r rfl ?_|refine Rf.mk rfl ?_|refine xA ?_|refine xB ?_|(refine Bd.mk ?_ ?_ <;> intro _)|refine xN ?_|fail)
 all_goals refine Fin.p rfl (vb ?_)
 all_goals first
  | exact decide_eq_decide.2 (by unfold isDigit;omega)
  | exact (decide_eq_false (by unfold isDigit;omega)).symm
inductive Comm (s : ByteArray) : Nat → Nat → Prop where
 | stop {a : Nat} : ¬ (a < s.size ∧ byteAt s a ≠ 10) → Comm s a a
 | step {a j : Nat} : a < s.size → byteAt s a ≠ 10 → Comm s (a + 1) j → Comm s a j
inductive Skip (s : ByteArray) : Nat → Nat → Prop where
 | stop {a : Nat} : ¬ (a < s.size ∧ (isWhite (byteAt s a) ∨ byteAt s a = 35)) → Skip s a a
 | white {a j : Nat} : a < s.size → byteAt s a ≠ 35 → isWhite (byteAt s a) → Skip s (a + 1) j → Skip s a j
 | com {a b j : Nat} : a < s.size → byteAt s a = 35 → Comm s a b → Skip s b j → Skip s a j
theorem Comm.le {s : ByteArray} {a j : Nat} (h : Comm s a j) (ha : a ≤ s.size) : a ≤ j ∧ j ≤ s.size := by
 induction h with
 | stop => exact ⟨Nat.le_refl _, ha⟩
 | step h1 _ _ ih => have := ih h1;omega
theorem Comm.lt {s : ByteArray} {a j : Nat} (h : Comm s a j) (ha : a < s.size) (hb : byteAt s a = 35) : a < j ∧ j ≤ s.size := by
 cases h with
 | stop h => exact absurd ⟨ha, by omega⟩ h
 | step h1 _ h3 => have := h3.le h1;omega
theorem Comm.ex (s : ByteArray) : ∀ (n a : Nat), s.size - a = n → ∃ j, Comm s a j := by
 intro n
 induction n with
 | zero => exact fun a h => ⟨a, .stop (by omega)⟩
 | succ n ih =>
  intro a h
  by_cases h1 : byteAt s a = 10
  ·exact ⟨a, .stop (by omega)⟩
  ·obtain ⟨j, hj⟩ := ih (a + 1) (by omega)
   exact ⟨j, .step (by omega) h1 hj⟩
theorem Skip.le {s : ByteArray} {a j : Nat} (h : Skip s a j) : a ≤ s.size → a ≤ j ∧ j ≤ s.size ∧ (j < s.size → ¬ isWhite (byteAt s j) ∧ byteAt s j ≠ 35) := by
 induction h with
 | stop h => exact fun ha => ⟨Nat.le_refl _, ha, fun hl => ⟨fun h9 => h ⟨hl, .inl h9⟩, fun h9 => h ⟨hl, .inr h9⟩⟩⟩
 | white h1 _ _ _ ih => intro ha;have := ih h1;exact ⟨by omega, this.2⟩
 | com h1 h2 h3 _ ih => intro ha;have h9 := h3.lt h1 h2;have := ih h9.2;exact ⟨by omega, this.2⟩
theorem Skip.ex (s : ByteArray) (n : Nat) : ∀ a : Nat, s.size - a = n → ∃ j, Skip s a j := by
 induction n using Nat.strongRecOn with
 | ind n ih =>
  intro a h
  by_cases hc : a < s.size ∧ (isWhite (byteAt s a) ∨ byteAt s a = 35)
  ·by_cases h2 : byteAt s a = 35
   ·obtain ⟨b, hb⟩ := Comm.ex s _ a rfl
    have h9 := hb.lt hc.1 h2
    obtain ⟨j, hj⟩ := ih (s.size - b) (by omega) b rfl
    exact ⟨j, .com hc.1 h2 hb hj⟩
   ·obtain ⟨j, hj⟩ := ih (s.size - (a + 1)) (by omega) (a + 1) rfl
    exact ⟨j, .white hc.1 h2 (hc.2.resolve_right h2) hj⟩
  ·exact ⟨a, .stop hc⟩
theorem skip_p {s : ByteArray} {a j : Nat} (hs : s.size ≤ 1000000000) (ha : a ≤ s.size) (h : Skip s a j) : CallP Tryz.prog 228 [sv s, .val (.int .i64 a)] (.val (.int .i64 j)) := by
 refine CallA.of pg ord228 Tryz.func228 rfl Tryz.ntmps228 Tryz.results228 rfl fun h0 G0 O0 => ?_
 repeat' (first|refine Sp.h ?_|refine Lk.r rfl ?_|refine Rf.mk rfl ?_|fail)
 refine CA.loop (fun a : Nat => ⟨[(0, sv s), (1, .val (.int .i64 a))], []⟩) (fun a => a ≤ s.size ∧ Skip s a j) (fun a => s.size - a) a xE ⟨ha, h⟩ ?_
 rintro a ⟨ha, h⟩
 cases h with
 | stop hn =>
  by_cases hl : j < s.size
  ·have hw : ¬ isWhite (byteAt s j) := fun h9 => hn ⟨hl, .inl h9⟩
   have h35 : byteAt s j ≠ 35 := fun h9 => hn ⟨hl, .inr h9⟩
   repeat' (first|refine Sp.h ?_|refine Lk.r rfl ?_|refine Rf.mk rfl ?_|refine xA ?_|refine xB ?_|refine xN ?_|(apply Sx.r;(focus exact rfl);(focus first|omega|(simp;omega)))|(apply Cl.p (white_p _);focus repeat' constructor))
   exact Fin.p rfl rfl
  ·repeat' (first|refine Sp.h ?_|refine Lk.r rfl ?_|refine Rf.mk rfl ?_|refine xB ?_|refine xN ?_|(apply Cl.p (white_p _);(focus repeat' (first|fail))))
   exact Fin.p rfl rfl
 | white h1 h2 h3 h4 =>
  repeat' (first|refine Sp.h ?_|refine Lk.r rfl ?_|refine Rf.mk rfl ?_|refine xA ?_|refine xB ?_|(apply Sx.r;(focus exact rfl);(focus first|omega|(simp;omega)))|refine xO ?_|(apply Cl.p (white_p _);focus repeat' constructor))
  exact PA.lp (a + 1) xE ⟨⟨h1, h4⟩, by omega⟩
 | com h1 h2 h3 h4 =>
  rename_i b
  have hw : ¬ isWhite (byteAt s a) := by unfold isWhite;omega
  have hb := h3.lt h1 h2
  repeat' (first|refine Sp.h ?_|refine Lk.r rfl ?_|refine Rf.mk rfl ?_|refine xA ?_|refine xB ?_|(apply Sx.r;(focus exact rfl);(focus first|omega|(simp;omega)))|(apply Cl.p (white_p _);focus repeat' constructor))
  refine CA.loop (fun a : Nat => ⟨[(0, sv s), (1, .val (.int .i64 a))], []⟩) (fun a => a ≤ s.size ∧ Comm s a b) (fun a => s.size - a) a xE ⟨ha, h3⟩ ?_
  rintro a2 ⟨ha2, h⟩
  cases h with
  | stop hn =>
   by_cases hl : b < s.size
   ·have h10 : byteAt s b = 10 := Classical.byContradiction fun h9 => hn ⟨hl, h9⟩
    repeat' (first|refine Sp.h ?_|refine Lk.r rfl ?_|refine Rf.mk rfl ?_|refine xA ?_|(apply Sx.r;(focus exact rfl);(focus first|omega|(simp;omega)))|fail)
    exact PA.lp b xE ⟨⟨ha2, h4⟩, by omega⟩
   ·repeat' (first|refine Sp.h ?_|refine Lk.r rfl ?_|refine Rf.mk rfl ?_|refine xB ?_|fail)
    exact PA.lp b xE ⟨⟨ha2, h4⟩, by omega⟩
  | step g1 g2 g3 =>
   repeat' (first|refine Sp.h ?_|refine Lk.r rfl ?_|refine Rf.mk rfl ?_|refine xA ?_|refine xB ?_|(apply Sx.r;(focus exact rfl);(focus first|omega|(simp;omega)))|refine xO ?_|fail)
   exact PA.lp (a2 + 1) xE ⟨⟨g1, g3⟩, by omega⟩
def strC (q : ByteArray) : List AV := [sv q]
def HasS (l : List ByteArray) (s : ByteArray) : Prop := ∃ q ∈ l, q.toList = s.toList
noncomputable instance (l : List ByteArray) (s : ByteArray) : Decidable (HasS l s) := Classical.propDecidable _
theorem has_p (l : List ByteArray) (s : ByteArray) : CallP Tryz.prog 173 [.sl 1 l strC, sv s] (.val (.bool (decide (HasS l s)))) := by
 refine CallA.of pg ord173 Tryz.func173 rfl Tryz.ntmps173 Tryz.results173 rfl fun h0 G0 O0 => ?_
 repeat' (first|refine Sp.h ?_|refine Lk.r rfl ?_|refine Rf.mk rfl ?_|fail)
 refine CA.loop (fun i : Nat => ⟨[(0, .sl 1 l strC), (1, sv s), (5, .val (.int .i64 i))], []⟩) (fun i => i ≤ l.length ∧ ∀ j q, j < i → l[j]? = some q → q.toList ≠ s.toList) (fun i => l.length - i) 0 xE ⟨Nat.zero_le _, fun j q h => by omega⟩ ?_
 rintro i ⟨hi, hj⟩
 by_cases hin : i < l.length
 ·obtain ⟨q, hq⟩ := get_of hin
  repeat' (first|refine Sp.h ?_|refine Lk.r rfl ?_|refine Rf.mk rfl ?_|refine xA ?_|(refine Bd.mk ?_ ?_ <;> intro _)|refine Im.mk fun _=>?_|refine xI ?_|refine xN ?_|refine xO ?_|fail)
  ·rename_i h
   exact Fin.p rfl (vb (decide_eq_true (show HasS l s from ⟨q, List.mem_of_getElem? hq, h⟩)).symm)
  ·rename_i h
   refine PA.lp (i + 1) xE ⟨⟨hin, fun j y h1 h2 => ?_⟩, by omega⟩
   by_cases hij : j = i
   ·subst hij;rw [hq] at h2;cases h2;exact h
   ·exact hj j y (by omega) h2
 ·repeat' (first|refine Sp.h ?_|refine Lk.r rfl ?_|refine Rf.mk rfl ?_|refine xB ?_|refine Im.mk fun _=>?_|refine xN ?_|fail)
  refine Fin.p rfl (vb (decide_eq_false ?_).symm)
  rintro ⟨q, hq, h⟩
  obtain ⟨j, hq⟩ := List.getElem?_of_mem hq
  exact hj j q (by have := (List.getElem?_eq_some_iff.1 hq).1;omega) hq h
def symL : List ByteArray := [⟨#[61, 61]⟩, ⟨#[33, 61]⟩, ⟨#[60, 61]⟩, ⟨#[62, 61]⟩, ⟨#[46, 46]⟩, ⟨#[60]⟩, ⟨#[62]⟩, ⟨#[61]⟩, ⟨#[43]⟩, ⟨#[45]⟩, ⟨#[42]⟩, ⟨#[40]⟩, ⟨#[41]⟩, ⟨#[123]⟩, ⟨#[125]⟩, ⟨#[44]⟩, ⟨#[58]⟩, ⟨#[59]⟩]
def kwL : List ByteArray := [⟨#[115, 111, 114, 116]⟩, ⟨#[114, 101, 108, 97, 116, 105, 111, 110]⟩, ⟨#[99, 111, 117, 110, 116, 101, 114]⟩, ⟨#[115, 101, 116]⟩, ⟨#[114, 101, 103, 105, 115, 116, 101, 114]⟩, ⟨#[105, 110, 118, 97, 114, 105, 97, 110, 116]⟩, ⟨#[111, 112, 101, 114, 97, 116, 105, 111, 110]⟩, ⟨#[107, 101, 121]⟩, ⟨#[114, 101, 102, 101, 114, 101, 110, 99, 101]⟩, ⟨#[116, 111]⟩, ⟨#[99, 111, 117, 110, 116]⟩, ⟨#[97, 99, 121, 99, 108, 105, 99]⟩, ⟨#[97, 108, 108]⟩, ⟨#[115, 117, 109]⟩, ⟨#[105, 110]⟩, ⟨#[97, 100, 100, 119, 105, 110, 115]⟩, ⟨#[114, 101, 109, 111, 118, 101, 119, 105, 110, 115]⟩, ⟨#[108, 97, 115, 116]⟩, ⟨#[109, 117, 108, 116, 105]⟩, ⟨#[104, 105, 100, 101]⟩, ⟨#[111, 114, 100, 101, 114, 101, 100]⟩, ⟨#[114, 101, 113, 117, 105, 114, 101]⟩, ⟨#[104, 111, 108, 100]⟩, ⟨#[105, 110, 115, 101, 114, 116]⟩, ⟨#[100, 101, 108, 101, 116, 101]⟩, ⟨#[97, 100, 100]⟩, ⟨#[102, 114, 111, 109]⟩, ⟨#[112, 117, 116]⟩, ⟨#[100, 114, 111, 112]⟩, ⟨#[97, 115, 115, 105, 103, 110]⟩, ⟨#[102, 111, 114]⟩, ⟨#[119, 104, 101, 114, 101]⟩, ⟨#[97, 110, 100]⟩, ⟨#[111, 114]⟩, ⟨#[110, 111, 116]⟩]
theorem symbols_o : CallO Tryz.prog 236 [] 9 1 (symL.map strC) id := by
 refine CallA.of pg ord236 Tryz.func236 rfl Tryz.ntmps236 Tryz.results236 rfl fun h0 G0 O0 => ?_
 repeat' (first|refine Sp.h ?_|refine Lk.r rfl ?_|refine Rf.mk rfl ?_|refine All.mk fun _=>?_|(apply Fk.r;focus repeat' first|infer_instance|constructor)|refine xN ?_|refine Rf.mk ⟨rfl, rfl, rfl⟩ ?_|fail)
 exact ⟨_, _, .one (.same (.z)), _, rfl, rfl⟩
theorem symbols_p : CallP Tryz.prog 236 [] (.sl 1 symL strC) := CallA.fzm (by decide) (List.map_id _).symm symbols_o
theorem keywords_o : CallO Tryz.prog 234 [] 9 1 (kwL.map strC) id := by
 refine CallA.of pg ord234 Tryz.func234 rfl Tryz.ntmps234 Tryz.results234 rfl fun h0 G0 O0 => ?_
 repeat' (first|refine Sp.h ?_|refine Lk.r rfl ?_|refine Rf.mk rfl ?_|refine All.mk fun _=>?_|(apply Fk.r;focus repeat' first|infer_instance|constructor)|refine xN ?_|refine Rf.mk ⟨rfl, rfl, rfl⟩ ?_|fail)
 exact ⟨_, _, .one (.same (.z)), _, rfl, rfl⟩
theorem keywords_p : CallP Tryz.prog 234 [] (.sl 1 kwL strC) := CallA.fzm (by decide) (List.map_id _).symm keywords_o
/-! ### Symbols -/
def symOK (s : ByteArray) (a : Nat) (q : ByteArray) : Prop := a + q.size ≤ s.size ∧ (s.extract a (a + q.size)).toList = q.toList
noncomputable instance (s : ByteArray) (a : Nat) (q : ByteArray) : Decidable (symOK s a q) := Classical.propDecidable _
noncomputable def symF (L : List ByteArray) (s : ByteArray) (a : Nat) : Nat := ((L.find? fun q => decide (symOK s a q)).map ByteArray.size).getD 0
theorem find_at {α : Type} {p : α → Bool} : ∀ {l : List α} {i : Nat} {x : α}, l[i]? = some x → p x = true → (∀ j y, j < i → l[j]? = some y → p y = false) → l.find? p = some x := by
 intro l
 induction l with
 | nil => intro i x h;cases h
 | cons a l ih =>
  intro i x h1 h2 h3
  cases i with
  | zero => cases h1;simp [h2]
  | succ i =>
   have h4 := h3 0 a (by omega) rfl
   rw [List.find?_cons, h4]
   exact ih h1 h2 fun j y hj hy => h3 (j + 1) y (by omega) hy
theorem symL_size : ∀ q ∈ symL, q.size ≤ 2 := by decide
theorem symF_le {s : ByteArray} {a : Nat} (ha : a ≤ s.size) : a + symF symL s a ≤ s.size := by
 unfold symF
 cases h : symL.find? fun q => decide (symOK s a q) with
 | none => exact ha
 | some q => exact (of_decide_eq_true (p := symOK s a q) (List.find?_some (p := fun q => decide (symOK s a q)) h)).1
theorem symbol_p {s : ByteArray} {a : Nat} (hs : s.size ≤ 1000000000) (ha : a ≤ s.size) : CallP Tryz.prog 235 [sv s, .val (.int .i64 a)] (.val (.int .i64 (symF symL s a))) := by
 obtain ⟨L, hL⟩ : ∃ L, L = symL := ⟨_, rfl⟩
 have hp := symbols_p
 have hsz := symL_size
 rw [← hL] at hp hsz ⊢
 refine CallA.of pg ord235 Tryz.func235 rfl Tryz.ntmps235 Tryz.results235 rfl fun h0 G0 O0 => ?_
 repeat' (first|refine Sp.h ?_|refine Lk.r rfl ?_|refine Rf.mk rfl ?_|(apply Cl.p (hp);(focus repeat' (first|exact Lend.nil|fail))))
 refine CA.loop (fun i : Nat => ⟨[(0, sv s), (1, .val (.int .i64 a)), (5, .sl 1 L strC), (6, .val (.int .i64 i))], []⟩) (fun i => i ≤ L.length ∧ ∀ j q, j < i → L[j]? = some q → ¬ symOK s a q) (fun i => L.length - i) 0 xE ⟨Nat.zero_le _, fun j q h => by omega⟩ ?_
 rintro i ⟨hi, hj⟩
 by_cases hin : i < L.length
 ·obtain ⟨q, hq⟩ := get_of hin
  have hqs := hsz q (List.mem_of_getElem? hq)
  repeat' (first|refine Sp.h ?_|refine Lk.r rfl ?_|refine Rf.mk rfl ?_|refine xA ?_|refine xB ?_|(refine Bd.mk ?_ ?_ <;> intro _)|refine OpK.r rfl ?_|refine Im.mk fun _=>?_|refine xI ?_|refine xN ?_|(apply Jx.r;(focus exact rfl);(focus first|omega|(simp;done)|(simp;omega)))|refine xD ?_|refine xO ?_|fail)
  all_goals first
   | (rename_i h1 h2;exact Fin.p rfl (by rw [symF, find_at hq (decide_eq_true (show symOK s a q from ⟨by omega, h2⟩)) fun j y h8 h9 => decide_eq_false (hj j y h8 h9)];rfl))
   | skip
  all_goals refine PA.lp (i + 1) xE ⟨⟨hin, fun j y h8 h9 => ?_⟩, by omega⟩
  all_goals
   by_cases hij : j = i
   ·subst hij;rw [hq] at h9;cases h9
    exact fun h7 => by have := h7.1;have := h7.2;first|contradiction|omega
   ·exact hj j y (by omega) h9
 ·repeat' (first|refine Sp.h ?_|refine Lk.r rfl ?_|refine Rf.mk rfl ?_|refine xB ?_|refine Im.mk fun _=>?_|refine xN ?_|fail)
  have hn : L.find? (fun q => decide (symOK s a q)) = none := List.find?_eq_none.2 fun q hq => by
   obtain ⟨j, hq⟩ := List.getElem?_of_mem hq
   have := hj j q (by have := (List.getElem?_eq_some_iff.1 hq).1;omega) hq
   simpa using this
  exact Fin.p rfl (by rw [symF, hn];rfl)
/-! ### Tokens -/
theorem token_c {s : ByteArray} {a : Nat} (hs : s.size ≤ 1000000000) (ha : a < s.size) (hw : ¬ isWhite (byteAt s a)) (h35 : byteAt s a ≠ 35) :
  CallA Tryz.prog 229 [sv s, .val (.int .i64 a)] [] fun r own => ∃ (k : Int) (b : Nat), r = .tup [.val (.int .i64 k), .val (.int .i64 b)] ∧ own = [] ∧ a < b ∧ b ≤ s.size := by
 refine CallA.of pg ord229 Tryz.func229 rfl Tryz.ntmps229 Tryz.results229 rfl fun h0 G0 O0 => ?_
 by_cases hl : isLetter (byteAt s a)
 ·repeat' (first|refine Sp.h ?_|refine Lk.r rfl ?_|refine Rf.mk rfl ?_|refine xA ?_|(apply Sx.r;(focus exact rfl);(focus first|omega|(simp;omega)))|(apply Cl.p (letter_p _);focus repeat' constructor))
  refine CA.loop (fun b : Nat => ⟨[(0, sv s), (1, .val (.int .i64 a)), (6, .val (.int .i64 b))], []⟩) (fun b => a ≤ b ∧ b ≤ s.size) (fun b => s.size - b) a xE ⟨Nat.le_refl _, by omega⟩ ?_
  rintro b ⟨hb1, hb2⟩
  by_cases hba : b = a
  ·subst hba
   repeat' (first|refine Sp.h ?_|refine Lk.r rfl ?_|refine Rf.mk rfl ?_|refine xA ?_|(apply Sx.r;(focus exact rfl);(focus first|omega|(simp;omega)))|refine xO ?_|(apply Cl.p (letter_p _);focus repeat' constructor))
   exact PA.lp (b + 1) xE ⟨⟨by omega, by omega⟩, by omega⟩
  ·repeat' (first|refine Sp.h ?_|refine Lk.r rfl ?_|refine Rf.mk rfl ?_|refine xA ?_|refine xB ?_|(refine Bd.mk ?_ ?_ <;> intro _)|refine OpK.r rfl ?_|(apply Jx.r;(focus exact rfl);(focus first|omega|(simp;done)|(simp;omega)))|refine xD ?_|(apply Sx.r;(focus exact rfl);(focus first|omega|(simp;omega)))|refine xO ?_|(apply Cl.p (letter_p _);focus repeat' constructor)|(apply Cl.p (digit_p _);focus repeat' constructor))
   all_goals try exact PA.lp (b + 1) xE ⟨⟨by omega, by omega⟩, by omega⟩
   all_goals repeat' (first|refine Sp.h ?_|refine Lk.r rfl ?_|refine Rf.mk rfl ?_|(refine Bd.mk ?_ ?_ <;> intro _)|refine OpK.r rfl ?_|refine xN ?_|(apply Cl.p (keywords_p);focus repeat' constructor)|(apply Cl.p (has_p _ _);focus repeat' constructor))
   all_goals exact ⟨_, _, .tup (.same (.same (.z))), _, b, rfl, rfl, by omega, hb2⟩
 ·by_cases hd : isDigit (byteAt s a)
  ·repeat' (first|refine Sp.h ?_|refine Lk.r rfl ?_|refine Rf.mk rfl ?_|refine xA ?_|refine xB ?_|(apply Sx.r;(focus exact rfl);(focus first|omega|(simp;omega)))|(apply Cl.p (letter_p _);focus repeat' constructor)|(apply Cl.p (digit_p _);focus repeat' constructor))
   refine CA.loop (fun b : Nat => ⟨[(0, sv s), (1, .val (.int .i64 a)), (6, .val (.int .i64 b))], []⟩) (fun b => a ≤ b ∧ b ≤ s.size) (fun b => s.size - b) a xE ⟨Nat.le_refl _, by omega⟩ ?_
   rintro b ⟨hb1, hb2⟩
   by_cases hba : b = a
   ·subst hba
    repeat' (first|refine Sp.h ?_|refine Lk.r rfl ?_|refine Rf.mk rfl ?_|refine xA ?_|(apply Sx.r;(focus exact rfl);(focus first|omega|(simp;omega)))|refine xO ?_|(apply Cl.p (digit_p _);focus repeat' constructor))
    exact PA.lp (b + 1) xE ⟨⟨by omega, by omega⟩, by omega⟩
   ·repeat' (first|refine Sp.h ?_|refine Lk.r rfl ?_|refine Rf.mk rfl ?_|refine xA ?_|refine xB ?_|(refine Bd.mk ?_ ?_ <;> intro _)|refine xN ?_|(apply Sx.r;(focus exact rfl);(focus first|omega|(simp;omega)))|refine xO ?_|(apply Cl.p (digit_p _);focus repeat' constructor))
    all_goals first
     | exact PA.lp (b + 1) xE ⟨⟨by omega, by omega⟩, by omega⟩
     | exact ⟨_, _, .tup (.same (.same (.z))), _, b, rfl, rfl, by omega, hb2⟩
  ·have hsy := symF_le (s := s) (a := a) (by omega)
   have hsp := symbol_p hs (Nat.le_of_lt ha)
   repeat' (first|refine Sp.h ?_|refine Lk.r rfl ?_|refine Rf.mk rfl ?_|refine xB ?_|(apply Sx.r;(focus exact rfl);(focus first|omega|(simp;omega)))|(apply Cl.p (letter_p _);focus repeat' constructor)|(apply Cl.p (digit_p _);focus repeat' constructor))
   by_cases hp : 0 < symF symL s a
   ·repeat' (first|refine Sp.h ?_|refine Lk.r rfl ?_|refine Rf.mk rfl ?_|refine xA ?_|refine xN ?_|refine xO ?_|(apply Cl.p (hsp);focus repeat' constructor))
    exact ⟨_, _, .tup (.same (.same (.z))), _, a + symF symL s a, rfl, rfl, by omega, hsy⟩
   ·repeat' (first|refine Sp.h ?_|refine Lk.r rfl ?_|refine Rf.mk rfl ?_|refine xB ?_|(apply Cl.p (hsp);focus repeat' constructor))
    refine CA.loop (fun b : Nat => ⟨[(0, sv s), (1, .val (.int .i64 a)), (6, .val (.int .i64 b))], []⟩) (fun b => a ≤ b ∧ b ≤ s.size) (fun b => s.size - b) a xE ⟨Nat.le_refl _, by omega⟩ ?_
    rintro b ⟨hb1, hb2⟩
    by_cases hba : b = a
    ·subst hba
     repeat' (first|refine Sp.h ?_|refine Lk.r rfl ?_|refine Rf.mk rfl ?_|refine xA ?_|refine xB ?_|(apply Sx.r;(focus exact rfl);(focus first|omega|(simp;omega)))|(apply Cl.p (white_p _);focus repeat' constructor)|(apply Cl.p (letter_p _);focus repeat' constructor))
     repeat' (first|refine Sp.h ?_|refine Lk.r rfl ?_|refine Rf.mk rfl ?_|refine xA ?_|refine xB ?_|refine xO ?_|(apply Cl.p (digit_p _);focus repeat' constructor)|(apply Cl.p (hsp);focus repeat' constructor))
     exact PA.lp (b + 1) xE ⟨⟨by omega, by omega⟩, by omega⟩
    ·have hsb := symbol_p hs hb2
     repeat' (first|refine Sp.h ?_|refine Lk.r rfl ?_|refine Rf.mk rfl ?_|refine xA ?_|refine xB ?_|(refine Bd.mk ?_ ?_ <;> intro _)|refine xN ?_|(apply Sx.r;(focus exact rfl);(focus first|omega|(simp;omega)))|(apply Cl.p (white_p _);focus repeat' constructor)|(apply Cl.p (letter_p _);focus repeat' constructor))
     all_goals repeat' (first|refine Sp.h ?_|refine Lk.r rfl ?_|refine Rf.mk rfl ?_|refine xA ?_|refine xB ?_|(refine Bd.mk ?_ ?_ <;> intro _)|refine xN ?_|refine xO ?_|(apply Cl.p (digit_p _);focus repeat' constructor)|(apply Cl.p (hsb);focus repeat' constructor))
     all_goals first
      | exact PA.lp (b + 1) xE ⟨⟨by omega, by omega⟩, by omega⟩
      | exact ⟨_, _, .tup (.same (.same (.z))), _, b, rfl, rfl, by omega, hb2⟩
/-! ### Scanning -/
abbrev TokT := Int × Int × Int × Int
def tokC (x : TokT) : List AV := [.val (.int .i64 x.1), .val (.int .i64 x.2.1), .val (.int .i64 x.2.2.1), .val (.int .i64 x.2.2.2)]
instance {a b c d : Int} : Inv tokC [.val (.int .i64 a), .val (.int .i64 b), .val (.int .i64 c), .val (.int .i64 d)] (a, b, c, d) := ⟨rfl⟩
theorem scan_c (s : ByteArray) : CallA Tryz.prog 224 [sv s] [] fun r own => ∃ (l : List TokT) (e : Int), r = .tup [.sl 4 l tokC, .val (.int .i64 e)] ∧ own = [] := by
 refine CallA.of pg ord224 Tryz.func224 rfl Tryz.ntmps224 Tryz.results224 rfl fun h0 G0 O0 => ?_
 repeat' (first|refine Sp.h ?_|refine Lk.r rfl ?_|refine Rf.mk rfl ?_|(refine Bd.mk ?_ ?_ <;> intro _)|refine All.mk fun _=>?_|(apply Fk.r;focus repeat' first|infer_instance|constructor)|refine xN ?_|refine Rf.mk ⟨rfl, rfl, rfl⟩ ?_|fail)
 ·exact ⟨_, _, .tup (.nilr (.same (.z))), [], _, rfl, rfl⟩
 rename_i hsz v
 have hs : s.size ≤ 1000000000 := by omega
 apply CA.retype (m := ([] : List TokT)) (g := tokC)
 focus (repeat constructor)
 focus rfl
 refine CA.loop (fun x : Nat × Value × List TokT => ⟨[(0, sv s), (5, .val (.int .i64 x.1)), (4, .ow x.2.1)], [arrR x.2.1 286 4 x.2.2 tokC]⟩) (fun x => x.1 ≤ s.size ∧ x.2.2.length ≤ x.1) (fun x => s.size - x.1) (0, v, []) xE ⟨Nat.zero_le _, Nat.le_refl _⟩ ?_
 rintro ⟨a, v, l⟩ ⟨ha, hl⟩
 simp only at ha hl
 obtain ⟨j, hj⟩ := Skip.ex s _ a rfl
 obtain ⟨hj1, hj2, hj3⟩ := hj.le ha
 have hsk := skip_p hs ha hj
 by_cases hjl : j < s.size
 ·obtain ⟨hj4, hj5⟩ := hj3 hjl
  have htk := token_c hs hjl hj4 hj5
  repeat' (first|refine Sp.h ?_|refine Lk.r rfl ?_|refine Rf.mk rfl ?_|refine xA ?_|(apply Cl.p (hsk);focus repeat' constructor))
  refine xW (htk) ?_
  rintro _ _ ⟨k, b, rfl, rfl, hb1, hb2⟩
  repeat' (first|refine Sp.h ?_|refine Lk.r rfl ?_|refine Rf.mk rfl ?_|refine xP ?_|refine All.mk fun _=>?_|refine xU ?_|refine Ce.r ?_|(apply Fk.r;focus repeat' first|infer_instance|constructor)|refine Rf.mk ⟨rfl, rfl⟩ ?_|refine Rf.mk ⟨rfl, rfl, rfl⟩ ?_|(apply Mp.lit;(focus repeat (first|exact MpL.nil|(apply MpL.cons;(focus rfl))|(apply MpL.inv;(focus repeat constructor);(focus infer_instance)))))|fail)
  exact PA.lp (b, _, l ++ [(k, (a : Int), (j : Int), (b : Int))]) xE ⟨⟨hb2, by simp only [List.length_append, List.length_singleton];omega⟩, by simp only;omega⟩
 ·repeat' (first|refine Sp.h ?_|refine Lk.r rfl ?_|refine Rf.mk rfl ?_|refine xB ?_|refine xP ?_|refine All.mk fun _=>?_|refine xU ?_|refine Ce.r ?_|(apply Fk.r;focus repeat' first|infer_instance|constructor)|refine xN ?_|refine Rf.mk ⟨rfl, rfl⟩ ?_|refine Rf.mk ⟨rfl, rfl, rfl⟩ ?_|(apply Mp.lit;(focus repeat (first|exact MpL.nil|(apply MpL.cons;(focus rfl))|(apply MpL.inv;(focus repeat constructor);(focus infer_instance)))))|(apply Cl.p (hsk);focus repeat' constructor))
  exact ⟨_, _, .tup (.fz (by repeat constructor) (by simp only [List.length_append, List.length_singleton];omega) (.same (.z))), _, _, rfl, rfl⟩
theorem kind_c (s : ByteArray) : CallA Tryz.prog 207 [sv s] [] fun r own => ∃ k : Int, r = .val (.int .i64 k) ∧ own = [] := by
 refine CallA.of pg ord207 Tryz.func207 rfl Tryz.ntmps207 Tryz.results207 rfl fun h0 G0 O0 => ?_
 repeat' (first|refine Sp.h ?_|refine Lk.r rfl ?_|refine Rf.mk rfl ?_|fail)
 refine xW (scan_c s) ?_
 rintro _ _ ⟨l, e, rfl, rfl⟩
 by_cases hl : l.length = 2
 ·obtain ⟨x, hx⟩ := get_of (l := l) (i := 0) (by omega)
  repeat' (first|refine Sp.h ?_|refine Lk.r rfl ?_|refine Rf.mk rfl ?_|refine xA ?_|refine xB ?_|(refine Bd.mk ?_ ?_ <;> intro _)|refine Im.mk fun _=>?_|refine xI ?_|refine xN ?_|fail)
  all_goals exact ⟨_, _, .one (.same (.z)), _, rfl, rfl⟩
 ·repeat' (first|refine Sp.h ?_|refine Lk.r rfl ?_|refine Rf.mk rfl ?_|refine xA ?_|refine xB ?_|(refine Bd.mk ?_ ?_ <;> intro _)|refine Im.mk fun _=>?_|refine xN ?_|fail)
  all_goals exact ⟨_, _, .one (.same (.z)), _, rfl, rfl⟩
abbrev CallB (P : Program) (f : FuncId) (args : List AV) : Prop := CallA P f args [] fun r own => ∃ b, r = .val (.bool b) ∧ own = []
theorem name_c (s : ByteArray) : CallB Tryz.prog 171 [sv s] := by
 refine CallA.of pg ord171 Tryz.func171 rfl Tryz.ntmps171 Tryz.results171 rfl fun h0 G0 O0 => ?_
 repeat' (first|refine Sp.h ?_|refine Lk.r rfl ?_|refine Rf.mk rfl ?_|fail)
 refine xW (kind_c s) ?_
 rintro _ _ ⟨k, rfl, rfl⟩
 repeat' (first|refine Sp.h ?_|refine Lk.r rfl ?_|refine Rf.mk rfl ?_|refine xA ?_|refine xB ?_|(refine Bd.mk ?_ ?_ <;> intro _)|refine xN ?_|fail)
 all_goals exact ⟨_, _, .one (.same (.z)), _, rfl, rfl⟩
end Go.Proofs.YtajenkpjcbaadaaGreat
