/- Part 4 of the ground of this proof: what its texts say of the model, the program and the plain data; conditions: those that are named. -/
import Derived.Test.YtpgpdmmobblffaaGreatProg
import Derived.KernelRfl
import Derived.Test.YtpgpdmmobblffaaGreatRows
import Derived.Test.YtpgpdmmobblffaaGreatP03
namespace Go.Proofs.YtpgpdmmobblffaaGreat
open Go Go.CF
def ti3 : TI := ⟨.int .i64, 1, 8, .int .i64 0⟩ -- int
theorem tok3 : TOK Tryz.prog 3 ti3 := TOK.mk' (by kernel_rfl) (by kernel_rfl)
def ti4 : TI := ⟨.bool, 1, 1, .bool false⟩ -- bool
theorem tok4 : TOK Tryz.prog 4 ti4 := TOK.mk' (by kernel_rfl) (by kernel_rfl)
def ti5 : TI := ⟨.int .u8, 1, 1, .int .u8 0⟩ -- uint8
theorem tok5 : TOK Tryz.prog 5 ti5 := TOK.mk' (by kernel_rfl) (by kernel_rfl)
def ti9 : TI := ⟨.str, 1, 16, .string ⟨#[]⟩⟩ -- string
theorem tok9 : TOK Tryz.prog 9 ti9 := TOK.mk' (by kernel_rfl) (by kernel_rfl)
def ti22 : TI := ⟨.slice 3, 1, 24, .slice none 0 0⟩ -- []int
theorem tok22 : TOK Tryz.prog 22 ti22 := TOK.mk' (by kernel_rfl) (by kernel_rfl)
def ti23 : TI := ⟨.slice 84, 1, 24, .slice none 0 0⟩ -- []api.Table
theorem tok23 : TOK Tryz.prog 23 ti23 := TOK.mk' (by kernel_rfl) (by kernel_rfl)
def ti24 : TI := ⟨.slice 9, 1, 24, .slice none 0 0⟩ -- []string
theorem tok24 : TOK Tryz.prog 24 ti24 := TOK.mk' (by kernel_rfl) (by kernel_rfl)
def ti25 : TI := ⟨.slice 174, 1, 24, .slice none 0 0⟩ -- []api.Constraint
theorem tok25 : TOK Tryz.prog 25 ti25 := TOK.mk' (by kernel_rfl) (by kernel_rfl)
def ti26 : TI := ⟨.slice 144, 1, 24, .slice none 0 0⟩ -- []api.Operation
theorem tok26 : TOK Tryz.prog 26 ti26 := TOK.mk' (by kernel_rfl) (by kernel_rfl)
def ti27 : TI := ⟨.slice 59, 1, 24, .slice none 0 0⟩ -- []api.Action
theorem tok27 : TOK Tryz.prog 27 ti27 := TOK.mk' (by kernel_rfl) (by kernel_rfl)
def ti28 : TI := ⟨.slice 180, 1, 24, .slice none 0 0⟩ -- []api.Hide
theorem tok28 : TOK Tryz.prog 28 ti28 := TOK.mk' (by kernel_rfl) (by kernel_rfl)
def ti30 : TI := ⟨.struct [(0, 22, 1), (1, 23, 1), (2, 24, 1), (3, 25, 1), (4, 26, 1), (5, 27, 1), (6, 28, 1)], 7, 168, .agg #[.slice none 0 0, .slice none 0 0, .slice none 0 0, .slice none 0 0, .slice none 0 0, .slice none 0 0, .slice none 0 0]⟩ -- api.Model
theorem tok30 : TOK Tryz.prog 30 ti30 := TOK.mk' (by kernel_rfl) (by kernel_rfl)
def ti31 : TI := ⟨.slice 44, 1, 24, .slice none 0 0⟩ -- []api.Merged
theorem tok31 : TOK Tryz.prog 31 ti31 := TOK.mk' (by kernel_rfl) (by kernel_rfl)
def ti33 : TI := ⟨.struct [(0, 3, 1), (1, 3, 1), (2, 3, 1)], 3, 24, .agg #[.int .i64 0, .int .i64 0, .int .i64 0]⟩ -- api.Right
theorem tok33 : TOK Tryz.prog 33 ti33 := TOK.mk' (by kernel_rfl) (by kernel_rfl)
def ti35 : TI := ⟨.struct [(0, 33, 3), (3, 3, 1)], 4, 32, .agg #[.int .i64 0, .int .i64 0, .int .i64 0, .int .i64 0]⟩ -- api.Need
theorem tok35 : TOK Tryz.prog 35 ti35 := TOK.mk' (by kernel_rfl) (by kernel_rfl)
def ti37 : TI := ⟨.struct [(0, 3, 1), (1, 3, 1), (2, 3, 1), (3, 22, 1), (4, 3, 1), (5, 3, 1), (6, 35, 4), (10, 3, 1), (11, 3, 1), (12, 3, 1)], 13, 120, .agg #[.int .i64 0, .int .i64 0, .int .i64 0, .slice none 0 0, .int .i64 0, .int .i64 0, .int .i64 0, .int .i64 0, .int .i64 0, .int .i64 0, .int .i64 0, .int .i64 0, .int .i64 0]⟩ -- api.Event
theorem tok37 : TOK Tryz.prog 37 ti37 := TOK.mk' (by kernel_rfl) (by kernel_rfl)
def ti40 : TI := ⟨.slice 37, 1, 24, .slice none 0 0⟩ -- []api.Event
theorem tok40 : TOK Tryz.prog 40 ti40 := TOK.mk' (by kernel_rfl) (by kernel_rfl)
def ti42 : TI := ⟨.slice 47, 1, 24, .slice none 0 0⟩ -- []api.Mark
theorem tok42 : TOK Tryz.prog 42 ti42 := TOK.mk' (by kernel_rfl) (by kernel_rfl)
def ti44 : TI := ⟨.struct [(0, 4, 1), (1, 4, 1), (2, 42, 1)], 3, 32, .agg #[.bool false, .bool false, .slice none 0 0]⟩ -- api.Merged
theorem tok44 : TOK Tryz.prog 44 ti44 := TOK.mk' (by kernel_rfl) (by kernel_rfl)
def ti47 : TI := ⟨.struct [(0, 3, 1), (1, 3, 1), (2, 3, 1), (3, 3, 1)], 4, 32, .agg #[.int .i64 0, .int .i64 0, .int .i64 0, .int .i64 0]⟩ -- api.Mark
theorem tok47 : TOK Tryz.prog 47 ti47 := TOK.mk' (by kernel_rfl) (by kernel_rfl)
def ti48 : TI := ⟨.int .i64, 1, 8, .int .i64 0⟩ -- api.Errno
theorem tok48 : TOK Tryz.prog 48 ti48 := TOK.mk' (by kernel_rfl) (by kernel_rfl)
def ti52 : TI := ⟨.map 3 4, 1, 8, .map none⟩ -- map[int]bool
theorem tok52 : TOK Tryz.prog 52 ti52 := TOK.mk' (by kernel_rfl) (by kernel_rfl)
def ti53 : TI := ⟨.slice 98, 1, 24, .slice none 0 0⟩ -- []api.Change
theorem tok53 : TOK Tryz.prog 53 ti53 := TOK.mk' (by kernel_rfl) (by kernel_rfl)
def ti54 : TI := ⟨.slice 171, 1, 24, .slice none 0 0⟩ -- []api.Row
theorem tok54 : TOK Tryz.prog 54 ti54 := TOK.mk' (by kernel_rfl) (by kernel_rfl)
def ti55 : TI := ⟨.slice 61, 1, 24, .slice none 0 0⟩ -- []api.Update
theorem tok55 : TOK Tryz.prog 55 ti55 := TOK.mk' (by kernel_rfl) (by kernel_rfl)
def ti57 : TI := ⟨.struct [(0, 53, 1), (1, 54, 1), (2, 55, 1)], 3, 72, .agg #[.slice none 0 0, .slice none 0 0, .slice none 0 0]⟩ -- api.Effect
theorem tok57 : TOK Tryz.prog 57 ti57 := TOK.mk' (by kernel_rfl) (by kernel_rfl)
def ti59 : TI := ⟨.struct [(0, 3, 1), (1, 22, 1), (2, 57, 3)], 5, 104, .agg #[.int .i64 0, .slice none 0 0, .slice none 0 0, .slice none 0 0, .slice none 0 0]⟩ -- api.Action
theorem tok59 : TOK Tryz.prog 59 ti59 := TOK.mk' (by kernel_rfl) (by kernel_rfl)
def ti61 : TI := ⟨.struct [(0, 3, 1), (1, 3, 1), (2, 3, 1)], 3, 24, .agg #[.int .i64 0, .int .i64 0, .int .i64 0]⟩ -- api.Update
theorem tok61 : TOK Tryz.prog 61 ti61 := TOK.mk' (by kernel_rfl) (by kernel_rfl)
def ti63 : TI := ⟨.slice 22, 1, 24, .slice none 0 0⟩ -- [][]int
theorem tok63 : TOK Tryz.prog 63 ti63 := TOK.mk' (by kernel_rfl) (by kernel_rfl)
def ti77 : TI := ⟨.func, 1, 8, .nilFunc⟩ -- func(api.Event) bool
theorem tok77 : TOK Tryz.prog 77 ti77 := TOK.mk' (by kernel_rfl) (by kernel_rfl)
def ti82 : TI := ⟨.struct [(0, 3, 1), (1, 3, 1)], 2, 16, .agg #[.int .i64 0, .int .i64 0]⟩ -- api.Range
theorem tok82 : TOK Tryz.prog 82 ti82 := TOK.mk' (by kernel_rfl) (by kernel_rfl)
def ti84 : TI := ⟨.struct [(0, 9, 1), (1, 3, 1), (2, 22, 1), (3, 82, 2), (5, 3, 1)], 6, 72, .agg #[.string ⟨#[]⟩, .int .i64 0, .slice none 0 0, .int .i64 0, .int .i64 0, .int .i64 0]⟩ -- api.Table
theorem tok84 : TOK Tryz.prog 84 ti84 := TOK.mk' (by kernel_rfl) (by kernel_rfl)
def ti87 : TI := ⟨.struct [(0, 3, 1), (1, 3, 1)], 2, 16, .agg #[.int .i64 0, .int .i64 0]⟩ -- api.Dot
theorem tok87 : TOK Tryz.prog 87 ti87 := TOK.mk' (by kernel_rfl) (by kernel_rfl)
def ti98 : TI := ⟨.struct [(0, 3, 1), (1, 3, 1)], 2, 16, .agg #[.int .i64 0, .int .i64 0]⟩ -- api.Change
theorem tok98 : TOK Tryz.prog 98 ti98 := TOK.mk' (by kernel_rfl) (by kernel_rfl)
def ti101 : TI := ⟨.map 108 105, 1, 8, .map none⟩ -- map[merge.rule]func(merge.change) api.Errno
theorem tok101 : TOK Tryz.prog 101 ti101 := TOK.mk' (by kernel_rfl) (by kernel_rfl)
def ti103 : TI := ⟨.map 3 61, 1, 8, .map none⟩ -- map[int]api.Update
theorem tok103 : TOK Tryz.prog 103 ti103 := TOK.mk' (by kernel_rfl) (by kernel_rfl)
def ti105 : TI := ⟨.func, 1, 8, .nilFunc⟩ -- func(merge.change) api.Errno
theorem tok105 : TOK Tryz.prog 105 ti105 := TOK.mk' (by kernel_rfl) (by kernel_rfl)
def ti108 : TI := ⟨.struct [(0, 3, 1), (1, 3, 1)], 2, 16, .agg #[.int .i64 0, .int .i64 0]⟩ -- merge.rule
theorem tok108 : TOK Tryz.prog 108 ti108 := TOK.mk' (by kernel_rfl) (by kernel_rfl)
def ti109 : TI := ⟨.ptr 44, 1, 8, .pointer none⟩ -- *api.Merged
theorem tok109 : TOK Tryz.prog 109 ti109 := TOK.mk' (by kernel_rfl) (by kernel_rfl)
def ti111 : TI := ⟨.struct [(0, 109, 1), (1, 37, 13), (14, 47, 4)], 18, 160, .agg #[.pointer none, .int .i64 0, .int .i64 0, .int .i64 0, .slice none 0 0, .int .i64 0, .int .i64 0, .int .i64 0, .int .i64 0, .int .i64 0, .int .i64 0, .int .i64 0, .int .i64 0, .int .i64 0, .int .i64 0, .int .i64 0, .int .i64 0, .int .i64 0]⟩ -- merge.change
theorem tok111 : TOK Tryz.prog 111 ti111 := TOK.mk' (by kernel_rfl) (by kernel_rfl)
def ti119 : TI := ⟨.func, 1, 8, .nilFunc⟩ -- func(api.Mark) bool
theorem tok119 : TOK Tryz.prog 119 ti119 := TOK.mk' (by kernel_rfl) (by kernel_rfl)
def ti122 : TI := ⟨.func, 1, 8, .nilFunc⟩ -- func(api.Table, api.Merged) bool
theorem tok122 : TOK Tryz.prog 122 ti122 := TOK.mk' (by kernel_rfl) (by kernel_rfl)
def ti131 : TI := ⟨.func, 1, 8, .nilFunc⟩ -- func(int, int) int
theorem tok131 : TOK Tryz.prog 131 ti131 := TOK.mk' (by kernel_rfl) (by kernel_rfl)
def ti132 : TI := ⟨.func, 1, 8, .nilFunc⟩ -- func(api.Event, api.Event) int
theorem tok132 : TOK Tryz.prog 132 ti132 := TOK.mk' (by kernel_rfl) (by kernel_rfl)
def ti136 : TI := ⟨.struct [(0, 44, 3), (3, 22, 1)], 4, 56, .agg #[.bool false, .bool false, .slice none 0 0, .slice none 0 0]⟩ -- merge.side
theorem tok136 : TOK Tryz.prog 136 ti136 := TOK.mk' (by kernel_rfl) (by kernel_rfl)
def ti144 : TI := ⟨.struct [(0, 9, 1), (1, 4, 1), (2, 22, 1)], 3, 48, .agg #[.string ⟨#[]⟩, .bool false, .slice none 0 0]⟩ -- api.Operation
theorem tok144 : TOK Tryz.prog 144 ti144 := TOK.mk' (by kernel_rfl) (by kernel_rfl)
def ti151 : TI := ⟨.map 87 4, 1, 8, .map none⟩ -- map[api.Dot]bool
theorem tok151 : TOK Tryz.prog 151 ti151 := TOK.mk' (by kernel_rfl) (by kernel_rfl)
def ti153 : TI := ⟨.func, 1, 8, .nilFunc⟩ -- func(api.Mark, api.Mark) int
theorem tok153 : TOK Tryz.prog 153 ti153 := TOK.mk' (by kernel_rfl) (by kernel_rfl)
def ti154 : TI := ⟨.map 87 37, 1, 8, .map none⟩ -- map[api.Dot]api.Event
theorem tok154 : TOK Tryz.prog 154 ti154 := TOK.mk' (by kernel_rfl) (by kernel_rfl)
def ti165 : TI := ⟨.slice 82, 1, 24, .slice none 0 0⟩ -- []api.Range
theorem tok165 : TOK Tryz.prog 165 ti165 := TOK.mk' (by kernel_rfl) (by kernel_rfl)
def ti168 : TI := ⟨.struct [(0, 3, 1), (1, 3, 1)], 2, 16, .agg #[.int .i64 0, .int .i64 0]⟩ -- api.Term
theorem tok168 : TOK Tryz.prog 168 ti168 := TOK.mk' (by kernel_rfl) (by kernel_rfl)
def ti169 : TI := ⟨.slice 168, 1, 24, .slice none 0 0⟩ -- []api.Term
theorem tok169 : TOK Tryz.prog 169 ti169 := TOK.mk' (by kernel_rfl) (by kernel_rfl)
def ti171 : TI := ⟨.struct [(0, 169, 1), (1, 3, 1)], 2, 32, .agg #[.slice none 0 0, .int .i64 0]⟩ -- api.Row
theorem tok171 : TOK Tryz.prog 171 ti171 := TOK.mk' (by kernel_rfl) (by kernel_rfl)
def ti174 : TI := ⟨.struct [(0, 3, 1), (1, 3, 1), (2, 171, 2), (4, 3, 1), (5, 3, 1)], 6, 64, .agg #[.int .i64 0, .int .i64 0, .slice none 0 0, .int .i64 0, .int .i64 0, .int .i64 0]⟩ -- api.Constraint
theorem tok174 : TOK Tryz.prog 174 ti174 := TOK.mk' (by kernel_rfl) (by kernel_rfl)
def ti180 : TI := ⟨.struct [(0, 3, 1), (1, 3, 1), (2, 3, 1)], 3, 24, .agg #[.int .i64 0, .int .i64 0, .int .i64 0]⟩ -- api.Hide
theorem tok180 : TOK Tryz.prog 180 ti180 := TOK.mk' (by kernel_rfl) (by kernel_rfl)
def ti183 : TI := ⟨.func, 1, 8, .nilFunc⟩ -- func(*api.Event) bool
theorem tok183 : TOK Tryz.prog 183 ti183 := TOK.mk' (by kernel_rfl) (by kernel_rfl)
def ti185 : TI := ⟨.map 3 183, 1, 8, .map none⟩ -- map[int]func(*api.Event) bool
theorem tok185 : TOK Tryz.prog 185 ti185 := TOK.mk' (by kernel_rfl) (by kernel_rfl)
def ti187 : TI := ⟨.ptr 37, 1, 8, .pointer none⟩ -- *api.Event
theorem tok187 : TOK Tryz.prog 187 ti187 := TOK.mk' (by kernel_rfl) (by kernel_rfl)
def ti195 : TI := ⟨.int .u64, 1, 8, .int .u64 0⟩ -- uint
theorem tok195 : TOK Tryz.prog 195 ti195 := TOK.mk' (by kernel_rfl) (by kernel_rfl)
def ti210 : TI := ⟨.int .i64, 1, 8, .int .i64 0⟩ -- slices.sortedHint
theorem tok210 : TOK Tryz.prog 210 ti210 := TOK.mk' (by kernel_rfl) (by kernel_rfl)
def ti217 : TI := ⟨.int .u32, 1, 4, .int .u32 0⟩ -- uint32
theorem tok217 : TOK Tryz.prog 217 ti217 := TOK.mk' (by kernel_rfl) (by kernel_rfl)
def ti219 : TI := ⟨.int .u64, 1, 8, .int .u64 0⟩ -- uint64
theorem tok219 : TOK Tryz.prog 219 ti219 := TOK.mk' (by kernel_rfl) (by kernel_rfl)
def ti220 : TI := ⟨.slice 42, 1, 24, .slice none 0 0⟩ -- [][]api.Mark
theorem tok220 : TOK Tryz.prog 220 ti220 := TOK.mk' (by kernel_rfl) (by kernel_rfl)
def ti223 : TI := ⟨.slice 227, 1, 24, .slice none 0 0⟩ -- []api.Token
theorem tok223 : TOK Tryz.prog 223 ti223 := TOK.mk' (by kernel_rfl) (by kernel_rfl)
def ti227 : TI := ⟨.struct [(0, 3, 1), (1, 3, 1), (2, 3, 1), (3, 3, 1)], 4, 32, .agg #[.int .i64 0, .int .i64 0, .int .i64 0, .int .i64 0]⟩ -- api.Token
theorem tok227 : TOK Tryz.prog 227 ti227 := TOK.mk' (by kernel_rfl) (by kernel_rfl)
def ti229 : TI := ⟨.int .u64, 1, 8, .int .u64 0⟩ -- slices.xorshift
theorem tok229 : TOK Tryz.prog 229 ti229 := TOK.mk' (by kernel_rfl) (by kernel_rfl)
def ti233 : TI := ⟨.ptr 3, 1, 8, .pointer none⟩ -- *int
theorem tok233 : TOK Tryz.prog 233 ti233 := TOK.mk' (by kernel_rfl) (by kernel_rfl)
def tyTab : List (Nat × TI) := [(3, ti3), (4, ti4), (5, ti5), (9, ti9), (22, ti22), (23, ti23), (24, ti24), (25, ti25), (26, ti26), (27, ti27), (28, ti28), (30, ti30), (31, ti31), (33, ti33), (35, ti35), (37, ti37), (40, ti40), (42, ti42), (44, ti44), (47, ti47), (48, ti48), (52, ti52), (53, ti53), (54, ti54), (55, ti55), (57, ti57), (59, ti59), (61, ti61), (63, ti63), (77, ti77), (82, ti82), (84, ti84), (87, ti87), (98, ti98), (101, ti101), (103, ti103), (105, ti105), (108, ti108), (109, ti109), (111, ti111), (119, ti119), (122, ti122), (131, ti131), (132, ti132), (136, ti136), (144, ti144), (151, ti151), (153, ti153), (154, ti154), (165, ti165), (168, ti168), (169, ti169), (171, ti171), (174, ti174), (180, ti180), (183, ti183), (185, ti185), (187, ti187), (195, ti195), (210, ti210), (217, ti217), (219, ti219), (220, ti220), (223, ti223), (227, ti227), (229, ti229), (233, ti233)]
theorem tyTab_ok : ∀ p ∈ tyTab, TOK Tryz.prog p.1 p.2 := by
  unfold tyTab
  repeat (first | exact List.forall_mem_nil _ | refine List.forall_mem_cons.2 ⟨by first | exact tok3 | exact tok4 | exact tok5 | exact tok9 | exact tok22 | exact tok23 | exact tok24 | exact tok25 | exact tok26 | exact tok27 | exact tok28 | exact tok30 | exact tok31 | exact tok33 | exact tok35 | exact tok37 | exact tok40 | exact tok42 | exact tok44 | exact tok47 | exact tok48 | exact tok52 | exact tok53 | exact tok54 | exact tok55 | exact tok57 | exact tok59 | exact tok61 | exact tok63 | exact tok77 | exact tok82 | exact tok84 | exact tok87 | exact tok98 | exact tok101 | exact tok103 | exact tok105 | exact tok108 | exact tok109 | exact tok111 | exact tok119 | exact tok122 | exact tok131 | exact tok132 | exact tok136 | exact tok144 | exact tok151 | exact tok153 | exact tok154 | exact tok165 | exact tok168 | exact tok169 | exact tok171 | exact tok174 | exact tok180 | exact tok183 | exact tok185 | exact tok187 | exact tok195 | exact tok210 | exact tok217 | exact tok219 | exact tok220 | exact tok223 | exact tok227 | exact tok229 | exact tok233, ?_⟩)
def tt : Nat → Option TI := lookT tyTab
def en : Nat → Bool := fun f => Nat.ble 3 f && Nat.ble f 193 && !Nat.beq f 145
theorem pg : PgOK Tryz.prog tt en :=
  ⟨lookT_ok tyTab_ok, fun f h => entB_ok (by
    have k := List.all_eq_true.1 (show (List.range 194).all (fun f => !(Nat.ble 3 f && Nat.ble f 193 && !Nat.beq f 145) || entB Tryz.prog f) = true by kernel_rfl) f (List.mem_range.2 (by simp [en] at h; omega))
    have h2 : (Nat.ble 3 f && Nat.ble f 193 && !Nat.beq f 145) = true := h
    rw [h2] at k; simpa using k), by kernel_rfl⟩
abbrev ordZ : Nat → Ord × (Nat → Cls) := fun _ => (.done, clOf [])
def ord5 : Nat → Ord × (Nat → Cls) := fun id => bif Nat.beq id 7 then (.one 0 (.one 1 (.one 3 (.one 2 (.one 4 (.one 5 (.one 6 (.one 7 (.one 8 (.one 9 (.one 10 .done)))))))))), clOf [.read, .read, .ext, .pure, .ext, .loud, .pure, .pure, .pure, .pure, .pure]) else bif Nat.beq id 29 then (.one 0 (.one 1 (.one 2 (.one 3 (.one 4 (.one 5 (.one 6 (.one 7 (.one 8 (.one 9 (.one 10 (.one 11 .done))))))))))), clOf [.read, .pure, .pure, .pure, .pure, .read, .loud, .pure, .pure, .pure, .pure, .pure]) else bif Nat.beq id 30 then (.one 0 (.one 1 (.one 2 (.one 3 (.one 4 (.one 5 (.one 6 (.one 7 (.one 8 (.one 9 (.one 10 (.one 11 .done))))))))))), clOf [.read, .pure, .pure, .pure, .pure, .read, .loud, .pure, .pure, .pure, .pure, .pure]) else (.done, clOf [])
abbrev ord8 := ordZ
def ord9 : Nat → Ord × (Nat → Cls) := fun id => bif Nat.beq id 11 then (.one 0 (.one 1 (.one 2 (.one 3 (.one 4 (.one 5 (.one 6 (.one 7 (.one 8 (.one 9 (.one 10 (.one 11 (.one 12 (.one 13 (.one 14 (.one 15 (.one 16 (.one 17 (.one 18 (.one 19 (.one 20 (.one 21 (.one 22 (.one 23 (.one 24 (.one 25 (.one 26 (.one 27 (.one 28 (.one 29 (.one 30 (.one 31 (.one 32 (.one 33 (.one 34 (.one 35 (.one 36 (.one 37 (.one 38 (.one 39 (.one 40 (.one 41 (.one 42 .done)))))))))))))))))))))))))))))))))))))))))), clOf [.pure, .read, .pure, .pure, .pure, .read, .pure, .pure, .pure, .pure, .read, .pure, .pure, .pure, .read, .pure, .pure, .pure, .pure, .read, .pure, .pure, .pure, .read, .pure, .pure, .pure, .pure, .read, .pure, .pure, .pure, .pure, .read, .pure, .read, .pure, .pure, .pure, .pure, .read, .pure, .pure]) else bif Nat.beq id 13 then (.one 0 (.one 2 (.one 1 (.one 3 (.one 4 (.one 5 (.one 6 .done)))))), clOf [.read, .ext, .read, .loud, .pure, .pure, .pure]) else (.done, clOf [])
abbrev ord11 := ordZ
def ord12 : Nat → Ord × (Nat → Cls) := fun id => bif Nat.beq id 19 then (.one 0 (.one 1 (.one 2 (.one 3 (.one 4 (.one 5 (.one 6 (.one 7 (.one 8 (.one 9 (.one 10 (.one 11 (.one 12 (.one 13 .done))))))))))))), clOf [.pure, .pure, .pure, .read, .pure, .read, .pure, .read, .pure, .read, .pure, .pure, .ext, .loud]) else (.done, clOf [])
def ord13 : Nat → Ord × (Nat → Cls) := fun id => bif Nat.beq id 6 then (.one 0 (.one 1 (.one 2 (.one 3 (.one 4 (.one 5 (.one 6 (.one 7 (.one 8 (.one 9 (.one 10 (.one 11 (.one 12 (.one 13 (.one 14 (.one 15 (.one 16 (.one 17 (.one 18 (.one 19 (.one 20 (.one 21 (.one 22 (.one 23 (.one 24 (.one 25 (.one 26 (.one 27 (.one 28 (.one 29 (.one 30 (.one 31 (.one 32 (.one 33 (.one 34 (.one 35 (.one 36 (.one 37 (.one 38 .done)))))))))))))))))))))))))))))))))))))), clOf [.pure, .pure, .pure, .pure, .read, .pure, .pure, .pure, .pure, .read, .pure, .pure, .pure, .pure, .pure, .pure, .read, .pure, .pure, .pure, .pure, .read, .pure, .pure, .pure, .pure, .pure, .pure, .pure, .read, .pure, .pure, .pure, .pure, .pure, .read, .pure, .pure, .pure]) else bif Nat.beq id 11 then (.one 0 (.one 1 (.one 2 (.one 3 (.one 4 (.one 5 (.one 6 (.one 7 (.one 8 (.one 9 (.one 10 (.one 11 (.one 12 (.one 13 (.one 14 (.one 15 (.one 16 .done)))))))))))))))), clOf [.pure, .pure, .pure, .pure, .read, .pure, .pure, .read, .pure, .pure, .pure, .pure, .read, .pure, .pure, .read, .pure]) else (.done, clOf [])
def ord14 : Nat → Ord × (Nat → Cls) := fun id => bif Nat.beq id 7 then (.one 0 (.one 1 (.one 2 (.one 3 (.one 4 (.one 5 (.one 6 (.one 7 (.one 8 (.one 9 .done))))))))), clOf [.pure, .read, .pure, .pure, .pure, .read, .loud, .ext, .loud, .pure]) else (.done, clOf [])
abbrev ord16 := ordZ
abbrev ord18 := ordZ
abbrev ord20 := ordZ
def ord22 : Nat → Ord × (Nat → Cls) := fun id => bif Nat.beq id 6 then (.one 0 (.one 1 (.one 2 (.one 3 (.one 4 (.one 5 (.one 6 (.one 7 (.one 8 (.one 9 .done))))))))), clOf [.pure, .pure, .pure, .read, .pure, .pure, .pure, .read, .loud, .pure]) else (.done, clOf [])
def ord23 : Nat → Ord × (Nat → Cls) := fun id => bif Nat.beq id 6 then (.one 0 (.one 1 (.one 2 (.one 3 (.one 4 (.one 5 (.one 6 (.one 7 (.one 8 .done)))))))), clOf [.read, .pure, .pure, .pure, .read, .pure, .read, .loud, .pure]) else (.done, clOf [])
abbrev ord24 := ordZ
abbrev ord25 := ordZ
abbrev ord26 := ordZ
abbrev ord27 := ordZ
abbrev ord28 := ordZ
def ord29 : Nat → Ord × (Nat → Cls) := fun id => bif Nat.beq id 4 then (.one 0 (.one 1 (.one 2 (.one 3 (.one 4 (.one 5 (.one 6 (.one 7 (.one 8 .done)))))))), clOf [.pure, .pure, .pure, .read, .pure, .pure, .pure, .read, .pure]) else (.done, clOf [])
abbrev ord30 := ordZ
def ord31 : Nat → Ord × (Nat → Cls) := fun id => bif Nat.beq id 6 then (.one 0 (.one 1 (.one 2 (.one 3 (.one 4 (.one 5 (.one 6 (.one 7 (.one 8 (.one 9 (.one 10 (.one 11 (.one 12 (.one 13 (.one 14 (.one 15 (.one 16 (.one 17 (.one 18 .done)))))))))))))))))), clOf [.pure, .read, .pure, .read, .pure, .pure, .read, .loud, .pure, .pure, .pure, .read, .pure, .pure, .pure, .read, .loud, .pure, .pure]) else (.done, clOf [])
def ord32 : Nat → Ord × (Nat → Cls) := fun id => bif Nat.beq id 1 then (.one 0 (.one 1 (.one 2 (.one 3 (.one 4 (.one 5 (.one 6 (.one 7 (.one 8 (.one 9 (.one 10 (.one 11 (.one 12 (.one 13 (.one 14 (.one 15 (.one 16 (.one 17 (.one 18 (.one 19 (.one 20 (.one 21 (.one 22 (.one 23 (.one 24 (.one 25 (.one 26 (.one 27 (.one 28 (.one 29 .done))))))))))))))))))))))))))))), clOf [.pure, .loud, .pure, .pure, .read, .pure, .pure, .pure, .pure, .read, .pure, .pure, .pure, .pure, .pure, .pure, .read, .pure, .pure, .pure, .pure, .read, .pure, .pure, .read, .pure, .read, .pure, .pure, .pure]) else (.done, clOf [])
abbrev ord35 := ordZ
abbrev ord36 := ordZ
abbrev ord37 := ordZ
abbrev ord38 := ordZ
def ord39 : Nat → Ord × (Nat → Cls) := fun id => bif Nat.beq id 6 then (.one 0 (.one 1 (.one 2 (.one 3 (.one 4 (.one 5 (.one 6 (.one 7 (.one 8 (.one 9 .done))))))))), clOf [.pure, .read, .pure, .read, .pure, .pure, .read, .loud, .pure, .pure]) else (.done, clOf [])
abbrev ord40 := ordZ
abbrev ord41 := ordZ
abbrev ord42 := ordZ
abbrev ord44 := ordZ
abbrev ord45 := ordZ
abbrev ord49 := ordZ
def ord50 : Nat → Ord × (Nat → Cls) := fun id => bif Nat.beq id 1 then (.one 0 (.one 1 (.one 2 (.one 3 (.one 4 .done)))), clOf [.read, .read, .ext, .loud, .pure]) else (.done, clOf [])
abbrev ord51 := ordZ
abbrev ord54 := ordZ
def ord55 : Nat → Ord × (Nat → Cls) := fun id => bif Nat.beq id 7 then (.one 0 (.one 1 (.one 2 (.one 3 (.one 4 (.one 5 (.one 6 (.one 7 (.one 8 (.one 9 (.one 10 (.one 11 (.one 12 (.one 13 (.one 14 (.one 15 (.one 16 (.one 17 (.one 18 (.one 19 (.one 20 (.one 21 (.one 22 (.one 23 (.one 24 .done)))))))))))))))))))))))), clOf [.read, .read, .loud, .pure, .pure, .pure, .read, .loud, .read, .pure, .pure, .pure, .pure, .pure, .pure, .read, .pure, .pure, .pure, .read, .read, .loud, .pure, .pure, .pure]) else (.done, clOf [])
def ord57 : Nat → Ord × (Nat → Cls) := fun id => bif Nat.beq id 6 then (.one 0 (.one 1 (.one 2 (.one 3 (.one 4 (.one 5 (.one 6 (.one 7 (.one 8 .done)))))))), clOf [.pure, .pure, .pure, .read, .pure, .pure, .pure, .read, .pure]) else (.done, clOf [])
def ord58 : Nat → Ord × (Nat → Cls) := fun id => bif Nat.beq id 8 then (.one 0 (.one 1 (.one 2 (.one 3 (.one 4 (.one 5 (.one 6 (.one 7 (.one 8 (.one 9 (.one 10 (.one 11 (.one 12 (.one 13 (.one 14 (.one 15 (.one 16 .done)))))))))))))))), clOf [.pure, .pure, .read, .loud, .pure, .pure, .pure, .pure, .read, .pure, .pure, .pure, .pure, .read, .pure, .pure, .pure]) else bif Nat.beq id 10 then (.one 0 (.one 1 (.one 3 (.one 2 (.one 4 .done)))), clOf [.pure, .read, .ext, .read, .loud]) else (.done, clOf [])
abbrev ord59 := ordZ
def ord60 : Nat → Ord × (Nat → Cls) := fun id => bif Nat.beq id 9 then (.one 0 (.one 1 (.one 2 (.one 3 (.one 4 (.one 5 (.one 6 (.one 7 (.one 8 (.one 9 (.one 10 (.one 11 (.one 12 .done)))))))))))), clOf [.pure, .pure, .read, .pure, .pure, .read, .pure, .read, .pure, .read, .pure, .pure, .loud]) else (.done, clOf [])
abbrev ord61 := ordZ
abbrev ord62 := ordZ
abbrev ord63 := ordZ
abbrev ord64 := ordZ
abbrev ord65 := ordZ
def ord66 : Nat → Ord × (Nat → Cls) := fun id => bif Nat.beq id 1 then (.one 0 (.one 1 (.one 2 (.one 3 (.one 5 (.one 6 (.one 7 (.one 8 (.one 10 (.one 11 (.one 12 (.one 13 (.one 4 (.one 9 (.one 14 (.one 15 (.one 16 (.one 17 .done))))))))))))))))), clOf [.pure, .read, .pure, .read, .ext, .pure, .read, .pure, .read, .ext, .pure, .read, .pure, .read, .loud, .ext, .loud, .pure]) else (.done, clOf [])
abbrev ord67 := ordZ
abbrev ord68 := ordZ
def ord69 : Nat → Ord × (Nat → Cls) := fun id => bif Nat.beq id 5 then (.one 0 (.one 1 (.one 2 (.one 3 (.one 4 (.one 5 (.one 6 (.one 7 (.one 8 (.one 9 (.one 10 (.one 11 (.one 12 (.one 13 (.one 14 (.one 15 (.one 16 .done)))))))))))))))), clOf [.pure, .read, .pure, .pure, .read, .pure, .pure, .pure, .read, .pure, .pure, .read, .pure, .read, .pure, .pure, .pure]) else bif Nat.beq id 7 then (.one 0 (.one 1 (.one 2 (.one 3 (.one 4 (.one 5 (.one 6 (.one 7 (.one 8 (.one 9 (.one 10 (.one 11 .done))))))))))), clOf [.pure, .pure, .read, .pure, .read, .pure, .pure, .read, .pure, .read, .pure, .pure]) else (.done, clOf [])
abbrev ord70 := ordZ
abbrev ord74 := ordZ
abbrev ord75 := ordZ
abbrev ord76 := ordZ
def ord77 : Nat → Ord × (Nat → Cls) := fun id => bif Nat.beq id 11 then (.one 0 (.one 1 (.one 2 (.one 3 (.one 4 (.one 5 (.one 6 (.one 7 .done))))))), clOf [.pure, .pure, .pure, .pure, .read, .pure, .read, .pure]) else (.done, clOf [])
def ord78 : Nat → Ord × (Nat → Cls) := fun id => bif Nat.beq id 4 then (.one 0 (.one 1 (.one 2 (.one 3 (.one 4 (.one 5 (.one 6 (.one 7 (.one 8 (.one 9 (.one 10 (.one 11 (.one 12 (.one 13 (.one 14 (.one 15 .done))))))))))))))), clOf [.pure, .pure, .pure, .read, .loud, .pure, .pure, .pure, .pure, .pure, .pure, .pure, .pure, .read, .loud, .pure]) else (.done, clOf [])
def ord79 : Nat → Ord × (Nat → Cls) := fun id => bif Nat.beq id 9 then (.one 0 (.one 1 (.one 2 (.one 3 (.one 4 (.one 5 (.one 6 (.one 7 (.one 8 (.one 9 (.one 10 (.one 11 (.one 12 (.one 13 (.one 14 (.one 15 (.one 16 (.one 17 (.one 18 (.one 19 (.one 20 (.one 21 (.one 22 .done)))))))))))))))))))))), clOf [.pure, .read, .pure, .pure, .pure, .pure, .read, .read, .loud, .pure, .pure, .pure, .read, .pure, .pure, .pure, .pure, .pure, .read, .read, .loud, .pure, .pure]) else (.done, clOf [])
def ord80 : Nat → Ord × (Nat → Cls) := fun id => bif Nat.beq id 10 then (.one 0 (.one 1 (.one 2 (.one 3 (.one 4 (.one 5 (.one 6 (.one 7 (.one 8 (.one 9 (.one 10 (.one 11 (.one 12 (.one 13 (.one 14 (.one 15 (.one 16 .done)))))))))))))))), clOf [.pure, .read, .pure, .pure, .read, .pure, .pure, .pure, .read, .pure, .pure, .read, .pure, .read, .pure, .pure, .pure]) else bif Nat.beq id 20 then (.one 0 (.one 1 (.one 2 (.one 3 (.one 4 (.one 5 (.one 6 (.one 7 (.one 8 (.one 9 (.one 10 (.one 11 (.one 12 (.one 13 (.one 14 (.one 15 (.one 16 (.one 17 (.one 18 (.one 19 (.one 20 (.one 21 (.one 22 (.one 23 (.one 24 .done)))))))))))))))))))))))), clOf [.pure, .read, .pure, .pure, .pure, .read, .pure, .read, .pure, .pure, .pure, .pure, .pure, .read, .pure, .pure, .read, .pure, .read, .pure, .pure, .read, .pure, .pure, .pure]) else bif Nat.beq id 26 then (.one 0 (.one 1 (.one 2 (.one 3 (.one 4 (.one 5 (.one 6 (.one 7 (.one 8 (.one 9 (.one 10 (.one 11 (.one 12 (.one 13 (.one 14 (.one 15 (.one 16 (.one 17 (.one 18 (.one 19 (.one 20 (.one 21 (.one 22 (.one 23 (.one 24 (.one 25 (.one 26 (.one 27 (.one 28 (.one 29 (.one 30 (.one 31 (.one 32 (.one 33 (.one 34 (.one 35 .done))))))))))))))))))))))))))))))))))), clOf [.pure, .pure, .pure, .pure, .read, .pure, .pure, .read, .loud, .pure, .pure, .pure, .pure, .pure, .pure, .pure, .read, .pure, .pure, .read, .pure, .pure, .pure, .read, .pure, .pure, .read, .pure, .read, .pure, .pure, .read, .pure, .pure, .pure, .pure]) else (.done, clOf [])
def ord81 : Nat → Ord × (Nat → Cls) := fun id => bif Nat.beq id 9 then (.one 0 (.one 1 (.one 2 (.one 3 (.one 4 (.one 5 (.one 6 (.one 7 (.one 8 (.one 9 (.one 10 (.one 11 (.alt 12 (.one 13 (.one 14 (.one 15 .done))) (.alt 13 (.one 12 (.one 14 (.one 15 .done))) (.none)))))))))))))), clOf [.pure, .read, .pure, .read, .pure, .read, .pure, .read, .pure, .read, .pure, .read, .ext, .ext, .ext, .ext, .ext]) else bif Nat.beq id 10 then (.one 0 (.one 1 (.one 2 (.one 3 (.one 4 (.one 5 (.one 6 (.one 7 (.one 8 (.one 9 (.one 10 (.one 11 (.one 12 (.one 13 (.one 14 (.one 15 (.one 16 (.one 17 (.one 18 (.one 19 (.one 20 (.one 21 (.one 22 (.one 23 (.one 24 (.one 25 (.one 26 (.one 27 (.one 28 (.one 29 (.one 30 (.one 31 (.one 32 (.one 33 (.one 34 (.one 35 (.one 36 (.one 37 (.one 38 (.one 39 .done))))))))))))))))))))))))))))))))))))))), clOf [.pure, .read, .pure, .pure, .pure, .read, .pure, .pure, .pure, .pure, .read, .pure, .pure, .pure, .pure, .read, .pure, .read, .pure, .pure, .pure, .pure, .pure, .read, .pure, .pure, .pure, .pure, .pure, .read, .pure, .read, .pure, .read, .pure, .read, .pure, .read, .pure, .pure]) else bif Nat.beq id 15 then (.one 0 (.one 1 (.one 2 (.one 3 (.one 4 (.one 5 (.one 6 (.one 7 (.one 8 (.one 9 (.one 10 (.one 11 (.one 12 (.one 13 (.one 14 (.one 15 (.one 16 .done)))))))))))))))), clOf [.read, .pure, .read, .pure, .pure, .pure, .read, .pure, .read, .pure, .pure, .pure, .read, .pure, .read, .pure, .loud]) else (.done, clOf [])
def ord82 : Nat → Ord × (Nat → Cls) := fun id => bif Nat.beq id 1 then (.one 0 (.one 1 (.one 2 (.one 3 (.one 4 (.one 5 (.one 6 (.one 7 (.one 8 (.one 9 (.one 10 (.one 11 (.one 12 (.one 13 (.one 14 (.one 15 (.one 16 (.one 17 (.one 18 (.one 19 (.one 20 (.one 21 (.one 22 (.one 23 (.one 24 (.one 25 (.one 26 (.one 27 (.one 28 (.one 29 (.one 30 (.one 31 (.one 32 (.one 33 (.one 34 (.one 35 (.one 36 .done)))))))))))))))))))))))))))))))))))), clOf [.pure, .read, .loud, .pure, .pure, .pure, .read, .pure, .read, .pure, .pure, .loud, .pure, .pure, .pure, .pure, .read, .pure, .read, .pure, .read, .pure, .read, .pure, .pure, .pure, .pure, .pure, .read, .pure, .pure, .pure, .pure, .read, .loud, .pure, .pure]) else bif Nat.beq id 3 then (.one 0 (.one 2 (.one 3 (.one 1 (.one 4 (.one 5 (.one 6 (.one 7 (.one 8 (.one 9 .done))))))))), clOf [.read, .ext, .pure, .read, .read, .pure, .pure, .pure, .pure, .pure]) else (.done, clOf [])
abbrev ord83 := ordZ
def ord84 : Nat → Ord × (Nat → Cls) := fun id => bif Nat.beq id 5 then (.one 0 (.one 1 (.one 2 (.one 3 (.one 4 (.one 5 (.one 6 (.one 7 (.one 8 (.one 9 (.one 10 (.one 11 (.one 12 .done)))))))))))), clOf [.pure, .read, .pure, .pure, .read, .pure, .read, .loud, .pure, .pure, .pure, .pure, .pure]) else bif Nat.beq id 6 then (.one 0 (.one 2 (.one 3 (.one 4 (.one 5 (.one 6 (.one 7 (.one 8 (.one 9 (.alt 1 (.one 10 (.one 11 (.one 12 (.one 13 (.one 14 .done))))) (.alt 10 (.alt 1 (.one 11 (.one 12 (.one 13 (.one 14 .done)))) (.alt 11 (.one 1 (.one 12 (.one 13 (.one 14 .done)))) (.none))) (.none))))))))))), clOf [.pure, .ext, .pure, .read, .pure, .pure, .read, .pure, .pure, .read, .ext, .loud, .pure, .pure, .loud]) else (.done, clOf [])
abbrev ord85 := ordZ
def ord86 : Nat → Ord × (Nat → Cls) := fun id => bif Nat.beq id 1 then (.one 0 (.one 2 (.alt 1 (.one 4 (.one 5 (.alt 3 (.one 6 (.one 7 (.one 8 (.one 9 .done)))) (.alt 6 (.one 3 (.one 7 (.one 8 (.one 9 .done)))) (.none))))) (.alt 3 (.one 1 (.one 4 (.one 5 (.one 6 (.one 7 (.one 8 (.one 9 .done))))))) (.none)))), clOf [.pure, .loud, .pure, .loud, .pure, .pure, .loud, .pure, .pure, .loud]) else (.done, clOf [])
def ord87 : Nat → Ord × (Nat → Cls) := fun id => bif Nat.beq id 4 then (.one 0 (.one 1 (.one 2 (.one 3 (.one 4 (.one 6 (.one 7 (.one 8 (.one 9 (.one 10 (.one 5 (.one 11 (.one 12 (.one 13 (.one 14 .done)))))))))))))), clOf [.pure, .read, .pure, .pure, .read, .ext, .pure, .read, .pure, .pure, .read, .loud, .ext, .loud, .pure]) else bif Nat.beq id 5 then (.one 0 (.one 1 (.one 2 (.one 3 (.one 4 (.one 5 (.one 6 (.one 7 (.one 8 .done)))))))), clOf [.pure, .read, .pure, .pure, .read, .pure, .read, .pure, .loud]) else (.done, clOf [])
abbrev ord88 := ordZ
abbrev ord89 := ordZ
def ord91 : Nat → Ord × (Nat → Cls) := fun id => bif Nat.beq id 6 then (.one 0 (.one 1 (.one 2 (.one 3 (.one 4 (.one 5 (.one 6 (.one 7 (.one 8 (.one 9 .done))))))))), clOf [.pure, .pure, .pure, .read, .pure, .pure, .pure, .pure, .read, .pure]) else bif Nat.beq id 11 then (.one 0 (.one 1 (.one 2 (.one 3 (.one 4 (.one 5 (.one 6 (.one 7 (.one 8 (.one 9 .done))))))))), clOf [.pure, .pure, .pure, .read, .pure, .pure, .pure, .pure, .read, .pure]) else (.done, clOf [])
abbrev ord92 := ordZ
def ord94 : Nat → Ord × (Nat → Cls) := fun id => bif Nat.beq id 3 then (.one 0 (.one 1 (.one 2 (.one 3 (.one 4 (.one 5 (.one 6 (.one 7 .done))))))), clOf [.pure, .pure, .read, .pure, .pure, .read, .pure, .pure]) else (.done, clOf [])
def ord95 : Nat → Ord × (Nat → Cls) := fun id => bif Nat.beq id 1 then (.one 0 (.one 1 (.one 2 (.one 3 (.one 5 (.one 6 (.one 7 (.one 8 (.one 10 (.one 11 (.one 12 (.one 13 (.one 4 (.one 9 (.one 14 (.one 15 (.one 16 (.one 17 .done))))))))))))))))), clOf [.pure, .read, .pure, .read, .ext, .pure, .read, .pure, .read, .ext, .pure, .read, .pure, .read, .loud, .ext, .loud, .pure]) else (.done, clOf [])
abbrev ord96 := ordZ
abbrev ord97 := ordZ
abbrev ord98 := ordZ
abbrev ord99 := ordZ
abbrev ord105 := ordZ
abbrev ord106 := ordZ
abbrev ord107 := ordZ
abbrev ord108 := ordZ
abbrev ord109 := ordZ
abbrev ord110 := ordZ
abbrev ord111 := ordZ
abbrev ord112 := ordZ
abbrev ord113 := ordZ
def ord114 : Nat → Ord × (Nat → Cls) := fun id => bif Nat.beq id 5 then (.one 0 (.one 1 (.one 2 (.one 3 (.one 4 (.one 5 (.one 6 (.one 7 (.one 8 (.one 9 (.one 10 (.one 11 (.one 12 (.one 13 (.one 14 (.one 15 (.one 16 (.one 17 (.one 18 (.one 19 (.one 20 (.one 21 (.one 22 (.one 23 (.one 24 (.one 25 (.one 26 (.one 27 (.one 28 (.one 29 (.one 30 (.one 31 (.one 32 (.one 33 (.one 34 (.one 35 .done))))))))))))))))))))))))))))))))))), clOf [.pure, .read, .pure, .pure, .pure, .read, .pure, .pure, .pure, .pure, .pure, .pure, .pure, .pure, .read, .pure, .pure, .pure, .pure, .read, .pure, .read, .pure, .pure, .pure, .pure, .pure, .read, .pure, .pure, .pure, .pure, .read, .loud, .pure, .pure]) else (.done, clOf [])
def ord115 : Nat → Ord × (Nat → Cls) := fun id => bif Nat.beq id 7 then (.one 0 (.one 1 (.one 2 (.one 3 (.one 4 (.one 5 (.one 6 (.one 7 (.one 8 (.one 9 (.one 10 (.one 11 (.one 12 (.one 13 (.one 14 (.one 15 (.one 16 (.one 17 (.one 18 (.one 19 (.one 20 (.one 21 (.one 22 (.one 23 (.one 24 (.one 25 (.one 26 (.one 27 (.one 28 (.one 29 (.one 30 (.one 31 (.one 32 (.one 33 (.one 34 (.one 35 (.one 36 (.one 37 (.one 38 (.one 39 .done))))))))))))))))))))))))))))))))))))))), clOf [.pure, .read, .pure, .pure, .pure, .read, .pure, .pure, .pure, .pure, .pure, .read, .pure, .read, .pure, .read, .pure, .read, .pure, .pure, .pure, .pure, .read, .pure, .read, .pure, .pure, .pure, .pure, .read, .pure, .read, .pure, .read, .pure, .read, .pure, .read, .pure, .pure]) else (.done, clOf [])
abbrev ord116 := ordZ
def ord117 : Nat → Ord × (Nat → Cls) := fun id => bif Nat.beq id 4 then (.one 0 (.one 1 (.one 2 (.one 3 (.one 4 (.one 5 (.one 6 (.one 7 (.one 8 .done)))))))), clOf [.pure, .pure, .pure, .read, .pure, .pure, .pure, .read, .pure]) else bif Nat.beq id 5 then (.one 0 (.one 1 (.one 2 (.one 3 (.one 4 (.one 5 (.one 6 (.one 7 (.one 8 (.one 9 .done))))))))), clOf [.pure, .pure, .pure, .read, .pure, .pure, .pure, .read, .pure, .pure]) else (.done, clOf [])
def ord118 : Nat → Ord × (Nat → Cls) := fun id => bif Nat.beq id 6 then (.one 0 (.one 1 (.one 2 (.one 3 (.one 4 (.one 5 (.one 6 (.one 7 (.one 8 (.one 9 (.one 10 (.one 11 (.one 12 (.one 13 (.one 14 (.one 15 (.one 16 (.one 17 (.one 18 (.one 19 (.one 20 (.one 21 (.one 22 (.one 23 (.one 24 (.one 25 (.one 26 (.one 27 (.one 28 (.one 29 (.one 30 (.one 31 (.one 32 (.one 33 (.one 34 (.one 35 .done))))))))))))))))))))))))))))))))))), clOf [.pure, .read, .pure, .pure, .pure, .read, .pure, .pure, .pure, .pure, .pure, .pure, .pure, .pure, .read, .pure, .pure, .pure, .pure, .read, .pure, .read, .pure, .pure, .pure, .pure, .pure, .read, .pure, .pure, .pure, .pure, .read, .loud, .pure, .pure]) else bif Nat.beq id 18 then (.one 0 (.one 1 (.one 2 (.one 3 (.one 4 (.one 5 (.one 6 (.one 7 (.one 8 (.one 9 (.one 10 (.one 11 (.one 12 (.one 13 (.one 14 (.one 15 (.one 16 (.one 17 .done))))))))))))))))), clOf [.pure, .pure, .pure, .pure, .pure, .pure, .pure, .read, .pure, .pure, .pure, .pure, .read, .pure, .read, .pure, .pure, .pure]) else (.done, clOf [])
def ord119 : Nat → Ord × (Nat → Cls) := fun id => bif Nat.beq id 6 then (.one 0 (.one 1 (.one 2 (.one 3 (.one 4 (.one 5 (.one 6 (.one 7 (.one 8 (.one 9 (.one 10 (.one 11 (.one 12 (.one 13 (.one 14 (.one 15 (.one 16 (.one 17 (.one 18 (.one 19 (.one 20 .done)))))))))))))))))))), clOf [.pure, .read, .pure, .pure, .pure, .read, .pure, .pure, .pure, .read, .pure, .read, .pure, .pure, .pure, .read, .pure, .pure, .pure, .loud, .pure]) else (.done, clOf [])
abbrev ord120 := ordZ
abbrev ord121 := ordZ
abbrev ord122 := ordZ
abbrev ord123 := ordZ
def ord124 : Nat → Ord × (Nat → Cls) := fun id => bif Nat.beq id 1 then (.one 0 (.one 2 (.one 3 (.one 1 (.one 4 (.one 5 (.one 6 .done)))))), clOf [.read, .ext, .pure, .read, .loud, .pure, .pure]) else (.done, clOf [])
def ord125 : Nat → Ord × (Nat → Cls) := fun id => bif Nat.beq id 5 then (.one 0 (.one 1 (.one 2 (.one 3 (.one 4 (.one 5 (.one 6 (.one 7 .done))))))), clOf [.pure, .pure, .pure, .pure, .read, .read, .loud, .pure]) else bif Nat.beq id 8 then (.one 0 (.one 1 (.one 2 (.one 3 (.one 4 (.one 5 (.one 6 (.one 7 (.one 8 (.one 9 (.one 10 (.one 11 (.one 12 (.one 13 (.one 14 (.one 15 .done))))))))))))))), clOf [.pure, .pure, .pure, .pure, .pure, .pure, .pure, .pure, .pure, .read, .read, .loud, .pure, .pure, .pure, .pure]) else (.done, clOf [])
def ord126 : Nat → Ord × (Nat → Cls) := fun id => bif Nat.beq id 11 then (.one 0 (.one 1 (.one 2 (.one 3 (.one 4 (.one 5 (.one 6 (.one 7 (.one 8 .done)))))))), clOf [.pure, .pure, .pure, .pure, .pure, .pure, .pure, .pure, .loud]) else bif Nat.beq id 15 then (.one 0 (.one 1 (.one 2 (.one 3 (.one 4 (.one 5 (.one 6 (.one 7 (.one 8 .done)))))))), clOf [.pure, .pure, .pure, .pure, .pure, .pure, .pure, .pure, .loud]) else (.done, clOf [])
def ord127 : Nat → Ord × (Nat → Cls) := fun id => bif Nat.beq id 1 then (.one 0 (.one 2 (.one 3 (.one 4 (.one 5 (.one 6 (.one 7 (.alt 1 (.one 8 (.one 9 (.one 10 (.one 11 .done)))) (.alt 8 (.one 1 (.one 9 (.one 10 (.one 11 .done)))) (.none))))))))), clOf [.pure, .ext, .pure, .read, .pure, .pure, .read, .pure, .loud, .pure, .pure, .loud]) else (.done, clOf [])
abbrev ord130 := ordZ
def ord131 : Nat → Ord × (Nat → Cls) := fun id => bif Nat.beq id 4 then (.one 0 (.one 1 (.one 2 (.one 3 (.one 4 (.one 5 (.one 6 (.one 7 (.one 8 (.one 9 (.one 10 (.one 11 (.one 12 (.one 13 (.one 14 (.one 15 (.one 16 .done)))))))))))))))), clOf [.pure, .pure, .pure, .pure, .pure, .pure, .pure, .pure, .read, .pure, .pure, .pure, .pure, .read, .loud, .pure, .pure]) else bif Nat.beq id 6 then (.one 0 (.one 1 (.one 2 (.one 3 (.one 4 (.one 5 (.one 6 (.one 7 (.one 8 (.one 9 (.one 10 (.one 11 (.one 12 (.one 13 (.one 14 (.one 15 (.one 16 (.one 17 .done))))))))))))))))), clOf [.pure, .pure, .pure, .pure, .pure, .pure, .pure, .pure, .pure, .read, .pure, .pure, .pure, .read, .pure, .loud, .pure, .loud]) else (.done, clOf [])
def ord132 : Nat → Ord × (Nat → Cls) := fun id => bif Nat.beq id 5 then (.one 0 (.one 1 (.one 2 (.one 3 (.one 4 (.one 5 (.one 6 (.one 7 (.one 8 (.one 9 (.one 10 .done)))))))))), clOf [.pure, .pure, .pure, .pure, .read, .pure, .pure, .pure, .read, .loud, .pure]) else bif Nat.beq id 11 then (.one 0 (.one 1 (.one 2 (.one 3 (.one 4 (.one 5 (.one 6 (.one 7 (.one 8 (.one 9 (.one 10 (.one 11 (.one 12 (.one 13 (.one 14 (.one 15 (.one 16 (.one 17 .done))))))))))))))))), clOf [.pure, .pure, .pure, .pure, .pure, .pure, .pure, .pure, .pure, .read, .pure, .pure, .pure, .read, .pure, .loud, .pure, .loud]) else bif Nat.beq id 17 then (.one 0 (.one 1 (.one 2 (.one 3 (.one 4 (.one 5 (.one 6 (.one 7 (.one 8 (.one 9 (.one 10 (.one 11 .done))))))))))), clOf [.pure, .pure, .pure, .pure, .read, .pure, .pure, .pure, .read, .loud, .pure, .pure]) else bif Nat.beq id 23 then (.one 0 (.one 1 (.one 2 (.one 3 (.one 4 (.one 5 (.one 6 (.one 7 (.one 8 (.one 9 (.one 10 (.one 11 (.one 12 (.one 13 (.one 14 (.one 15 (.one 16 (.one 17 .done))))))))))))))))), clOf [.pure, .pure, .pure, .pure, .pure, .pure, .pure, .pure, .pure, .read, .pure, .pure, .pure, .read, .pure, .loud, .pure, .loud]) else bif Nat.beq id 35 then (.one 0 (.one 1 (.one 2 (.one 3 (.one 4 (.one 5 (.one 6 (.one 7 (.one 8 (.one 9 (.one 10 (.one 11 (.one 12 (.one 13 .done))))))))))))), clOf [.pure, .pure, .pure, .pure, .pure, .pure, .read, .pure, .pure, .pure, .read, .loud, .pure, .pure]) else (.done, clOf [])
abbrev ord136 := ordZ
abbrev ord137 := ordZ
def ord138 : Nat → Ord × (Nat → Cls) := fun id => bif Nat.beq id 6 then (.one 0 (.one 1 (.one 2 (.one 3 (.one 4 (.one 5 (.one 6 (.one 7 (.one 8 .done)))))))), clOf [.pure, .pure, .pure, .read, .pure, .pure, .pure, .read, .pure]) else (.done, clOf [])
abbrev ord139 := ordZ
abbrev ord140 := ordZ
abbrev ord141 := ordZ
abbrev ord142 := ordZ
abbrev ord143 := ordZ
def ord144 : Nat → Ord × (Nat → Cls) := fun id => bif Nat.beq id 6 then (.one 0 (.one 1 (.one 2 (.one 3 (.one 4 (.one 5 (.one 6 (.one 7 (.one 8 .done)))))))), clOf [.pure, .pure, .pure, .read, .pure, .pure, .pure, .read, .pure]) else (.done, clOf [])
def ord147 : Nat → Ord × (Nat → Cls) := fun id => bif Nat.beq id 1 then (.one 0 (.one 1 (.one 2 (.one 3 (.one 4 (.one 5 (.one 6 .done)))))), clOf [.pure, .pure, .read, .read, .ext, .loud, .pure]) else (.done, clOf [])
def ord159 : Nat → Ord × (Nat → Cls) := fun id => bif Nat.beq id 4 then (.one 0 (.one 1 (.one 2 (.one 3 (.one 4 (.one 5 (.one 6 (.one 7 (.one 8 .done)))))))), clOf [.pure, .pure, .pure, .read, .pure, .pure, .pure, .read, .pure]) else (.done, clOf [])
abbrev ord160 := ordZ
abbrev ord163 := ordZ
abbrev ord164 := ordZ
def ord171 : Nat → Ord × (Nat → Cls) := fun id => bif Nat.beq id 3 then (.one 0 (.one 1 (.one 2 (.one 3 (.one 4 (.one 5 (.one 6 (.one 7 (.one 8 (.one 9 (.one 10 (.one 11 (.one 12 (.one 13 (.one 14 (.one 15 (.one 16 (.one 17 (.one 18 (.one 19 (.one 20 (.one 21 (.one 22 (.one 23 .done))))))))))))))))))))))), clOf [.pure, .pure, .pure, .pure, .pure, .pure, .pure, .pure, .pure, .pure, .pure, .pure, .pure, .read, .pure, .pure, .pure, .pure, .pure, .read, .pure, .loud, .pure, .loud]) else (.done, clOf [])
abbrev ord180 := ordZ
def ord181 : Nat → Ord × (Nat → Cls) := fun id => bif Nat.beq id 5 then (.one 1 (.one 2 (.one 3 (.one 4 (.one 0 (.one 5 .done))))), clOf [.loud, .pure, .pure, .pure, .pure, .loud]) else (.done, clOf [])
abbrev ord187 := ordZ
abbrev ord188 := ordZ
abbrev ord189 := ordZ
abbrev ord190 := ordZ
def ord191 : Nat → Ord × (Nat → Cls) := fun id => bif Nat.beq id 6 then (.one 0 (.one 1 (.one 2 (.one 3 (.one 4 (.one 5 (.one 6 (.one 7 (.one 8 (.one 9 (.one 10 (.one 11 (.one 12 (.one 13 (.one 14 (.one 15 (.one 16 (.one 17 (.one 18 .done)))))))))))))))))), clOf [.pure, .pure, .pure, .pure, .pure, .pure, .pure, .pure, .pure, .pure, .pure, .pure, .pure, .pure, .pure, .pure, .read, .pure, .pure]) else (.done, clOf [])
abbrev ord193 := ordZ
end Go.Proofs.YtpgpdmmobblffaaGreat
namespace Go.Proofs.YtpgpdmmobblffaaGreat
open Go Go.CF
set_option maxRecDepth 20000
def intC (x : Int) : List AV := [.val (.int .i64 x)]
abbrev ints (l : List Int) : AV := .sl 1 l intC
theorem vb {a b : Bool} (h : a = b) : AV.val (.bool a) = AV.val (.bool b) := by rw [h]
theorem all_succ {α : Type} {l : List α} {i : Nat} {x : α} {P : α → Prop} (h : l[i]? = some x) (ha : ∀ y ∈ l.take i, P y) (hx : P x) : ∀ y ∈ l.take (i + 1), P y := fun y hy => by
  rw [List.take_add_one, h] at hy
  rcases List.mem_append.1 hy with h1 | h1
  · exact ha y h1
  · simp at h1; exact h1 ▸ hx
theorem get_of {α : Type} {l : List α} {i : Nat} (h : i < l.length) : ∃ x, l[i]? = some x := ⟨_, List.getElem?_eq_getElem h⟩
theorem equal_p (a b : List Int) : CallP Tryz.prog 144 [ints a, ints b] (.val (.bool (decide (a = b)))) := by
  refine CallA.of pg ord144 Tryz.func144 rfl Tryz.ntmps144 Tryz.results144 rfl fun h0 G0 O0 => ?_
  repeat' (first | refine Sp.h ?_ | refine Lk.r rfl ?_ | refine Rf.mk rfl ?_ | (refine Bd.mk ?_ ?_ <;> intro _) | (refine Im.mk ?_; intro _) | (apply Nm.r; (focus repeat (first | apply LN.cons | exact LN.nil))) | fail)
  · rename_i ha hb hab _
    refine CA.loop (fun i : Nat => ⟨[(0, ints a), (1, ints b), (12, .val (.int .i64 a.length)), (13, .val (.int .i64 i))], []⟩) (fun i => i ≤ a.length ∧ a.take i = b.take i) (fun i => a.length - i) 0 ⟨by (repeat (first | exact trivial | refine ⟨rfl, ?_⟩)), by (repeat (first | exact Subl.nil | refine Subl.cons (by (repeat (first | exact Take.here | apply Take.there))) ?_))⟩ ⟨Nat.zero_le _, by simp⟩ ?_
    rintro i ⟨hi, heq⟩
    by_cases hin : i < a.length
    · obtain ⟨x, hx⟩ : ∃ x, a[i]? = some x := ⟨_, List.getElem?_eq_getElem hin⟩
      obtain ⟨y, hy⟩ : ∃ y, b[i]? = some y := ⟨_, List.getElem?_eq_getElem (by omega)⟩
      repeat' (first | refine Sp.h ?_ | refine Lk.r rfl ?_ | refine Rf.mk rfl ?_ | (apply Bd.t; (focus (first | assumption | omega | rfl))) | (refine Bd.mk ?_ ?_ <;> intro _) | refine OpK.r rfl ?_ | (apply Ix.q; (focus exact rfl); (focus assumption)) | (apply Nm.r; (focus repeat (first | apply LN.cons | exact LN.nil))) | (apply CA.draw; (focus rfl); (focus kernel_rfl); (focus kernel_rfl); (focus repeat' (first | apply ON.one | exact ON.done | exact ON.none | apply ON.alt)); (focus rfl)) | (apply Ov.n; (focus first | omega | (simp <;> omega))) | fail)
      · rename_i hxy
        refine PA.lp (i + 1) ⟨by (repeat (first | exact trivial | refine ⟨rfl, ?_⟩)), by (repeat (first | exact Subl.nil | refine Subl.cons (by (repeat (first | exact Take.here | apply Take.there))) ?_))⟩ ⟨⟨hin, ?_⟩, by omega⟩
        rw [List.take_add_one, List.take_add_one, hx, hy, heq, show x = y by omega]
      · rename_i hxy
        refine Fin.p rfl ?_
        rw [decide_eq_false (fun e => hxy ?_)]
        subst e; rw [hx] at hy; cases hy; rfl
    · have : i = a.length := by omega
      subst this
      repeat' (first | refine Sp.h ?_ | refine Lk.r rfl ?_ | refine Rf.mk rfl ?_ | (apply Bd.f; (focus (first | assumption | omega | exact Bool.false_ne_true))) | (apply Nm.r; (focus repeat (first | apply LN.cons | exact LN.nil))) | fail)
      refine Fin.p rfl ?_
      rw [List.take_length] at heq
      rw [decide_eq_true (by rw [heq, List.take_of_length_le (by omega)])]
  · rename_i h
    refine Fin.p rfl ?_
    rw [decide_eq_false (fun e => h (by rw [e]))]
/-! ### Valid -/
def rngK (x : Int) : Prop := 0 ≤ x ∧ x ≤ 1024
def ValC (c : List Int) : Prop := (∀ x ∈ c, rngK x) ∧ 1 ≤ c.length ∧ c.length ≤ 5
noncomputable instance (c : List Int) : Decidable (ValC c) := Classical.propDecidable _
theorem validC_p (c : List Int) : CallP Tryz.prog 24 [ints c] (.val (.bool (decide (ValC c)))) := by
  refine CallA.of pg ord24 Tryz.func24 rfl Tryz.ntmps24 Tryz.results24 rfl fun h0 G0 O0 => ?_
  repeat' (first | refine Sp.h ?_ | refine Lk.r rfl ?_ | refine Rf.mk rfl ?_ | (refine Im.mk ?_; intro _) | fail)
  refine CA.loop (fun i : Nat => ⟨[(0, ints c), (5, ints c), (6, .val (.int .i64 c.length)), (7, .val (.int .i64 i))], []⟩) (fun i => i ≤ c.length ∧ ∀ x ∈ c.take i, rngK x) (fun i => c.length - i) 0 ⟨by (repeat (first | exact trivial | refine ⟨rfl, ?_⟩)), by (repeat (first | exact Subl.nil | refine Subl.cons (by (repeat (first | exact Take.here | apply Take.there))) ?_))⟩ ⟨Nat.zero_le _, by simp⟩ ?_
  rintro i ⟨hi, ha⟩
  by_cases hin : i < c.length
  · obtain ⟨x, hx⟩ := get_of hin
    repeat' (first | refine Sp.h ?_ | refine Lk.r rfl ?_ | refine Rf.mk rfl ?_ | (apply Bd.t; (focus (first | assumption | omega | rfl))) | (apply Bd.f; (focus (first | assumption | omega | exact Bool.false_ne_true))) | (refine Bd.mk ?_ ?_ <;> intro _) | (apply Ix.q; (focus exact rfl); (focus assumption)) | (apply Nm.r; (focus repeat (first | apply LN.cons | exact LN.nil))) | (apply Ov.n; (focus first | omega | (simp <;> omega))) | fail)
    all_goals first
      | exact PA.lp (i + 1) ⟨by (repeat (first | exact trivial | refine ⟨rfl, ?_⟩)), by (repeat (first | exact Subl.nil | refine Subl.cons (by (repeat (first | exact Take.here | apply Take.there))) ?_))⟩ ⟨⟨hin, all_succ hx ha ⟨by omega, by omega⟩⟩, by omega⟩
      | exact Fin.p rfl (vb (decide_eq_false (fun h => by have h1 := h.1 x (List.mem_of_getElem? hx); unfold rngK at h1; omega)).symm)
  · have : i = c.length := by omega
    subst this
    rw [List.take_length] at ha
    repeat' (first | refine Sp.h ?_ | refine Lk.r rfl ?_ | refine Rf.mk rfl ?_ | (apply Bd.t; (focus (first | assumption | omega | rfl))) | (apply Bd.f; (focus (first | assumption | omega | exact Bool.false_ne_true))) | (refine Bd.mk ?_ ?_ <;> intro _) | (refine Im.mk ?_; intro _) | (apply Nm.r; (focus repeat (first | apply LN.cons | exact LN.nil))) | fail)
    all_goals exact Fin.p rfl (vb (by first | exact (decide_eq_false (fun h => by have := h.2; omega)).symm | exact decide_eq_decide.2 ⟨fun h => ⟨ha, by omega, by omega⟩, fun h => by have := h.2; omega⟩))
def HasC (c : List Int) (r n : Int) : Prop := ValC c ∧ 0 ≤ r ∧ 1 ≤ n ∧ ∃ x, c[r.toNat]? = some x ∧ n ≤ x
noncomputable instance (c : List Int) (r n : Int) : Decidable (HasC c r n) := Classical.propDecidable _
abbrev dotC (r n : Int) : AV := .agg [.val (.int .i64 r), .val (.int .i64 n)]
theorem hasC_p (c : List Int) (r n : Int) : CallP Tryz.prog 32 [ints c, dotC r n] (.val (.bool (decide (HasC c r n)))) := by
  refine CallA.of pg ord32 Tryz.func32 rfl Tryz.ntmps32 Tryz.results32 rfl fun h0 G0 O0 => ?_
  by_cases hr : 0 ≤ r ∧ r < c.length
  · obtain ⟨x, hx⟩ := get_of (l := c) (i := r.toNat) (by omega)
    repeat' (first | refine Sp.h ?_ | refine Lk.r rfl ?_ | refine Rf.mk rfl ?_ | refine OpK.r rfl ?_ | (refine All.mk ?_; intro _) | (apply CA.draw; (focus rfl); (focus kernel_rfl); (focus kernel_rfl); (focus repeat' (first | apply ON.one | exact ON.done | exact ON.none | apply ON.alt)); (focus rfl)) | fail)
    (apply Cl.p (validC_p _); (focus repeat' (first | exact Lend.nil | apply Lend.keep | fail)))
    repeat' (first | refine Sp.h ?_ | refine Lk.r rfl ?_ | refine Rf.mk rfl ?_ | (apply Bd.t; (focus (first | assumption | omega | rfl))) | (apply Bd.f; (focus (first | assumption | omega | exact Bool.false_ne_true))) | (refine Bd.mk ?_ ?_ <;> intro _) | refine OpK.r rfl ?_ | (refine Im.mk ?_; intro _) | (apply TkB.r; (focus (repeat (first | exact Take.here | apply Take.there)))) | (apply Ix.r; (focus assumption); (focus omega)) | (apply Nm.r; (focus repeat (first | apply LN.cons | exact LN.nil))) | fail)
    all_goals refine Fin.p rfl (vb ?_)
    all_goals first
      | exact decide_eq_decide.2 ⟨fun h => ⟨by assumption, hr.1, by assumption, x, hx, h⟩, fun ⟨_, _, _, y, hy, h⟩ => by rw [hx] at hy; cases hy; exact h⟩
      | exact (decide_eq_false (fun ⟨_, _, _, y, hy, _⟩ => by have := (List.getElem?_eq_some_iff.1 hy).1; first | contradiction | omega)).symm
  · repeat' (first | refine Sp.h ?_ | refine Lk.r rfl ?_ | refine Rf.mk rfl ?_ | refine OpK.r rfl ?_ | (refine All.mk ?_; intro _) | (apply CA.draw; (focus rfl); (focus kernel_rfl); (focus kernel_rfl); (focus repeat' (first | apply ON.one | exact ON.done | exact ON.none | apply ON.alt)); (focus rfl)) | fail)
    (apply Cl.p (validC_p _); (focus repeat' (first | exact Lend.nil | apply Lend.keep | fail)))
    repeat' (first | refine Sp.h ?_ | refine Lk.r rfl ?_ | refine Rf.mk rfl ?_ | (apply Bd.t; (focus (first | assumption | omega | rfl))) | (apply Bd.f; (focus (first | assumption | omega | exact Bool.false_ne_true))) | (refine Bd.mk ?_ ?_ <;> intro _) | refine OpK.r rfl ?_ | (refine Im.mk ?_; intro _) | (apply TkB.r; (focus (repeat (first | exact Take.here | apply Take.there)))) | (apply Nm.r; (focus repeat (first | apply LN.cons | exact LN.nil))) | fail)
    all_goals refine Fin.p rfl (vb ?_)
    all_goals exact (decide_eq_false (fun ⟨_, _, _, y, hy, _⟩ => by have := (List.getElem?_eq_some_iff.1 hy).1; first | contradiction | omega)).symm
/-! ### alike, inside -/
def clkC (c : List Int) : List AV := [ints c]
abbrev clks (l : List (List Int)) : AV := .sl 1 l clkC
def AlikeC (l : List (List Int)) : Prop := 0 < l.length ∧ ∀ c ∈ l, ValC c ∧ c.length = (l[0]?.getD []).length
noncomputable instance (l : List (List Int)) : Decidable (AlikeC l) := Classical.propDecidable _
theorem alike_p (l : List (List Int)) : CallP Tryz.prog 105 [clks l] (.val (.bool (decide (AlikeC l)))) := by
  refine CallA.of pg ord105 Tryz.func105 rfl Tryz.ntmps105 Tryz.results105 rfl fun h0 G0 O0 => ?_
  repeat' (first | refine Sp.h ?_ | refine Lk.r rfl ?_ | refine Rf.mk rfl ?_ | (refine Im.mk ?_; intro _) | fail)
  refine CA.loop (fun i : Nat => ⟨[(0, clks l), (5, clks l), (6, .val (.int .i64 l.length)), (7, .val (.int .i64 i))], []⟩) (fun i => i ≤ l.length ∧ ∀ c ∈ l.take i, ValC c ∧ c.length = (l[0]?.getD []).length) (fun i => l.length - i) 0 ⟨by (repeat (first | exact trivial | refine ⟨rfl, ?_⟩)), by (repeat (first | exact Subl.nil | refine Subl.cons (by (repeat (first | exact Take.here | apply Take.there))) ?_))⟩ ⟨Nat.zero_le _, by simp⟩ ?_
  rintro i ⟨hi, ha⟩
  by_cases hin : i < l.length
  · obtain ⟨c, hc⟩ := get_of hin
    obtain ⟨b, hb⟩ := get_of (l := l) (i := 0) (by omega)
    have hbb : (l[0]?.getD []).length = b.length := by rw [hb]; rfl
    repeat' (first | refine Sp.h ?_ | refine Lk.r rfl ?_ | refine Rf.mk rfl ?_ | (apply Bd.t; (focus (first | assumption | omega | rfl))) | (apply Ix.q; (focus exact rfl); (focus assumption)) | fail)
    (apply Cl.p (validC_p _); (focus repeat' (first | exact Lend.nil | apply Lend.keep | fail)))
    repeat' (first | refine Sp.h ?_ | refine Lk.r rfl ?_ | refine Rf.mk rfl ?_ | (apply Bd.t; (focus (first | assumption | omega | rfl))) | (apply Bd.f; (focus (first | assumption | omega | exact Bool.false_ne_true))) | (refine Bd.mk ?_ ?_ <;> intro _) | (refine Im.mk ?_; intro _) | (apply Ix.q; (focus exact rfl); (focus assumption)) | (apply Nm.r; (focus repeat (first | apply LN.cons | exact LN.nil))) | (apply Ov.n; (focus first | omega | (simp <;> omega))) | fail)
    all_goals first
      | exact Fin.p rfl (vb (decide_eq_false (fun h => by have h1 := h.2 c (List.mem_of_getElem? hc); first | exact absurd h1.1 (by assumption) | omega)).symm)
      | exact PA.lp (i + 1) ⟨by (repeat (first | exact trivial | refine ⟨rfl, ?_⟩)), by (repeat (first | exact Subl.nil | refine Subl.cons (by (repeat (first | exact Take.here | apply Take.there))) ?_))⟩ ⟨⟨hin, all_succ hc ha ⟨by assumption, by omega⟩⟩, by omega⟩
  · have : i = l.length := by omega
    subst this
    rw [List.take_length] at ha
    repeat' (first | refine Sp.h ?_ | refine Lk.r rfl ?_ | refine Rf.mk rfl ?_ | (apply Bd.f; (focus (first | assumption | omega | exact Bool.false_ne_true))) | (refine Im.mk ?_; intro _) | (apply Nm.r; (focus repeat (first | apply LN.cons | exact LN.nil))) | fail)
    exact Fin.p rfl (vb (decide_eq_decide.2 ⟨fun h => ⟨by omega, ha⟩, fun h => by have := h.1; omega⟩))
abbrev CallO (P : Program) (f : FuncId) (args : List AV) {α : Type} (T : TypeId) (sz : Nat) (l : List α) (g : α → List AV) : Prop := CallA P f args [] fun r own => ∃ v, r = .ow v ∧ own = [arrR v T sz l g]
theorem clone_o (l : List Int) (hl : l.length ≤ 1000000000) : CallO Tryz.prog 106 [ints l] 3 1 l intC := by
  refine CallA.of pg ord106 Tryz.func106 rfl Tryz.ntmps106 Tryz.results106 rfl fun h0 G0 O0 => ?_
  repeat' (first | refine Sp.h ?_ | refine Lk.r rfl ?_ | refine Rf.mk rfl ?_ | (refine Bd.mk ?_ ?_ <;> intro _) | (apply Om.mk; (focus first | omega | (simp <;> omega))) | (refine Im.mk ?_; intro _) | (refine All.mk ?_; intro _) | (apply TkA.r; (focus (repeat (first | exact Take.here | apply Take.there)))) | refine Ce.l rfl ?_ | (apply Fk.r; (focus (repeat (first | exact FillA.nil | (apply FillA.agg; (focus rfl); (focus rfl); (focus (repeat (first | exact SetAs.z | (apply SetAs.c; (focus (repeat (first | assumption | exact SetA.z | apply SetA.s)))))))) | (apply FillA.one; (focus rfl); (focus infer_instance); (focus (repeat (first | assumption | exact SetA.z | apply SetA.s)))))))) | (apply Nm.r; (focus repeat (first | apply LN.cons | exact LN.nil))) | refine Rf.mk ⟨rfl, rfl⟩ ?_ | refine Rf.mk ⟨rfl, rfl, rfl⟩ ?_ | refine Mp.same ?_ | fail)
  · rename_i b hb hbt
    have hl0 : l = [] := Decidable.byContradiction fun h => by rw [hb h] at hbt; cases hbt
    subst hl0
    exact ⟨_, _, .one (.nils (.nil (by (repeat (first | exact Subl.nil | refine Subl.cons (by (repeat (first | exact Take.here | apply Take.there))) ?_))))), _, rfl, rfl⟩
  · repeat' (first | fail)
    exact ⟨_, _, .one (.same (.nil (by (repeat (first | exact Subl.nil | refine Subl.cons (by (repeat (first | exact Take.here | apply Take.there))) ?_))))), _, rfl, rfl⟩
def Ins (a b : List Int) : Prop := ∀ (i : Nat) (x y : Int), a[i]? = some x → b[i]? = some y → x ≤ y
noncomputable instance (a b : List Int) : Decidable (Ins a b) := Classical.propDecidable _
theorem inside_p (a b : List Int) (hab : a.length ≤ b.length) : CallP Tryz.prog 159 [ints a, ints b] (.val (.bool (decide (Ins a b)))) := by
  refine CallA.of pg ord159 Tryz.func159 rfl Tryz.ntmps159 Tryz.results159 rfl fun h0 G0 O0 => ?_
  repeat' (first | refine Sp.h ?_ | refine Lk.r rfl ?_ | refine Rf.mk rfl ?_ | (refine Im.mk ?_; intro _) | fail)
  refine CA.loop (fun i : Nat => ⟨[(0, ints a), (1, ints b), (7, .val (.int .i64 a.length)), (8, .val (.int .i64 i))], []⟩) (fun i => i ≤ a.length ∧ ∀ j x y, j < i → a[j]? = some x → b[j]? = some y → x ≤ y) (fun i => a.length - i) 0 ⟨by (repeat (first | exact trivial | refine ⟨rfl, ?_⟩)), by (repeat (first | exact Subl.nil | refine Subl.cons (by (repeat (first | exact Take.here | apply Take.there))) ?_))⟩ ⟨Nat.zero_le _, fun j x y h => by omega⟩ ?_
  rintro i ⟨hi, ha⟩
  by_cases hin : i < a.length
  · obtain ⟨x, hx⟩ := get_of hin
    obtain ⟨y, hy⟩ := get_of (l := b) (i := i) (by omega)
    repeat' (first | refine Sp.h ?_ | refine Lk.r rfl ?_ | refine Rf.mk rfl ?_ | (apply Bd.t; (focus (first | assumption | omega | rfl))) | (refine Bd.mk ?_ ?_ <;> intro _) | refine OpK.r rfl ?_ | (apply Ix.q; (focus exact rfl); (focus assumption)) | (apply Nm.r; (focus repeat (first | apply LN.cons | exact LN.nil))) | (apply CA.draw; (focus rfl); (focus kernel_rfl); (focus kernel_rfl); (focus repeat' (first | apply ON.one | exact ON.done | exact ON.none | apply ON.alt)); (focus rfl)) | (apply Ov.n; (focus first | omega | (simp <;> omega))) | fail)
    · rename_i hxy
      exact Fin.p rfl (vb (decide_eq_false (fun h => by have := h i x y hx hy; omega)).symm)
    · rename_i hxy
      refine PA.lp (i + 1) ⟨by (repeat (first | exact trivial | refine ⟨rfl, ?_⟩)), by (repeat (first | exact Subl.nil | refine Subl.cons (by (repeat (first | exact Take.here | apply Take.there))) ?_))⟩ ⟨⟨hin, fun j x' y' hj h1 h2 => ?_⟩, by omega⟩
      by_cases e : j = i
      · subst e; rw [hx] at h1; rw [hy] at h2; cases h1; cases h2; omega
      · exact ha j x' y' (by omega) h1 h2
  · have : i = a.length := by omega
    subst this
    repeat' (first | refine Sp.h ?_ | refine Lk.r rfl ?_ | refine Rf.mk rfl ?_ | (apply Bd.f; (focus (first | assumption | omega | exact Bool.false_ne_true))) | (apply Nm.r; (focus repeat (first | apply LN.cons | exact LN.nil))) | fail)
    exact Fin.p rfl (vb (decide_eq_true (p := Ins a b) (fun j x y h1 h2 => ha j x y (List.getElem?_eq_some_iff.1 h1).1 h1 h2)).symm)
end Go.Proofs.YtpgpdmmobblffaaGreat
namespace Go.Proofs.YtpgpdmmobblffaaGreat
open Go Go.CF
set_option maxRecDepth 20000
theorem alike2 (a b : List Int) : AlikeC [a, b] ↔ ValC a ∧ ValC b ∧ a.length = b.length := by
  unfold AlikeC
  simp
  intro _ _
  exact eq_comm
/-! ### Missing -/
/-! ### Zero -/
theorem zero_ok (n : Int) (hn : 1 ≤ n ∧ n ≤ 5) : CallO Tryz.prog 61 [.val (.int .i64 n)] 3 1 (List.replicate n.toNat 0) intC := by
  obtain ⟨m, rfl⟩ : ∃ m : Nat, n = m := ⟨n.toNat, by omega⟩
  refine CallA.of pg ord61 Tryz.func61 rfl Tryz.ntmps61 Tryz.results61 rfl fun h0 G0 O0 => ?_
  repeat' (first | refine Sp.h ?_ | refine Lk.r rfl ?_ | refine Rf.mk rfl ?_ | (apply Bd.f; (focus (first | assumption | omega | exact Bool.false_ne_true))) | (refine All.mk ?_; intro _) | (apply Nm.r; (focus repeat (first | apply LN.cons | exact LN.nil))) | refine Rf.mk ⟨rfl, rfl, rfl⟩ ?_ | (apply Jx.r; (focus exact rfl); (focus first | omega | (simp; done) | (simp; omega))) | refine MkS.r intC 0 rfl ?_ | fail)
  exact ⟨_, _, .one (.same (.nil (by (repeat (first | exact Subl.nil | refine Subl.cons (by (repeat (first | exact Take.here | apply Take.there))) ?_))))), _, rfl, rfl⟩
/-! ### Compare -/
theorem compare_p (a b : List Int) : CallP Tryz.prog 130 [ints a, ints b] (if AlikeC [a, b] then .tup [.val (.int .i64 (if Ins a b ∧ Ins b a then 0 else if Ins a b then 1 else if Ins b a then 2 else 3)), .val (.int .i64 0)] else .tup [.val (.int .i64 0), .val (.int .i64 1)]) := by
  refine CallA.of pg ord130 Tryz.func130 rfl Tryz.ntmps130 Tryz.results130 rfl fun h0 G0 O0 => ?_
  repeat' (first | refine Sp.h ?_ | refine Lk.r rfl ?_ | refine Rf.mk rfl ?_ | (refine All.mk ?_; intro _) | (apply Fk.r; (focus (repeat (first | exact FillA.nil | (apply FillA.agg; (focus rfl); (focus rfl); (focus (repeat (first | exact SetAs.z | (apply SetAs.c; (focus (repeat (first | assumption | exact SetA.z | apply SetA.s)))))))) | (apply FillA.one; (focus rfl); (focus infer_instance); (focus (repeat (first | assumption | exact SetA.z | apply SetA.s)))))))) | refine Rf.mk ⟨rfl, rfl, rfl⟩ ?_ | fail)
  (apply Cl.lend (alike_p [a, b]); (focus repeat' (first | exact Lend.nil | (apply Lend.lendm; (focus (repeat (first | exact Take.here | apply Take.there))); (focus rfl); (focus first | omega | decide | (simp; omega) | exact Nat.le_of_ble_eq_true rfl)) | fail)))
  by_cases hal : AlikeC [a, b]
  · obtain ⟨_, _, hlab⟩ := (alike2 a b).1 hal
    have l1 : a.length ≤ b.length := by omega
    have l2 : b.length ≤ a.length := by omega
    repeat' (first | refine Sp.h ?_ | refine Lk.r rfl ?_ | refine Rf.mk rfl ?_ | (apply Bd.t; (focus (first | assumption | omega | rfl))) | fail)
    (apply Cl.p (inside_p a b l1); (focus repeat' (first | exact Lend.nil | apply Lend.keep | fail)))
    repeat' (first | refine Sp.h ?_ | refine Lk.r rfl ?_ | refine Rf.mk rfl ?_ | fail)
    (apply Cl.p (inside_p b a l2); (focus repeat' (first | exact Lend.nil | apply Lend.keep | fail)))
    repeat' (first | refine Sp.h ?_ | refine Lk.r rfl ?_ | refine Rf.mk rfl ?_ | (apply Bd.t; (focus (first | assumption | omega | rfl))) | (apply Bd.f; (focus (first | assumption | omega | exact Bool.false_ne_true))) | (refine Bd.mk ?_ ?_ <;> intro _) | (apply Nm.r; (focus repeat (first | apply LN.cons | exact LN.nil))) | fail)
    all_goals refine Fin.p rfl ?_
    all_goals rw [if_pos hal]
    all_goals simp only [*, and_self, and_true, if_true, if_false, and_false]
  · repeat' (first | refine Sp.h ?_ | refine Lk.r rfl ?_ | refine Rf.mk rfl ?_ | (apply Bd.f; (focus (first | assumption | omega | exact Bool.false_ne_true))) | (apply Nm.r; (focus repeat (first | apply LN.cons | exact LN.nil))) | fail)
    exact Fin.p rfl (by rw [if_neg hal])
end Go.Proofs.YtpgpdmmobblffaaGreat
namespace Go.Proofs.YtpgpdmmobblffaaGreat
open Go Go.CF
set_option maxRecDepth 20000
def zipC (op : Int → Int → Int) (a b : List Int) : List Int := List.zipWith op a b
def foldC (op : Int → Int → Int) (l : List (List Int)) : List Int := l.tail.foldl (zipC op) (l.headD [])
theorem zip_step {op : Int → Int → Int} {a c : List Int} {i : Nat} {x y : Int} (ha : a[i]? = some x) (hc : c[i]? = some y) (hl : a.length = c.length) :
    ((zipC op a c).take i ++ a.drop i).set i (op x y) = (zipC op a c).take (i + 1) ++ a.drop (i + 1) := by
  have hz : (zipC op a c)[i]? = some (op x y) := by simp [zipC, List.getElem?_zipWith, ha, hc]
  have hi := (List.getElem?_eq_some_iff.1 ha).1
  have hzl : (zipC op a c).length = a.length := by simp [zipC]; omega
  apply List.ext_getElem?
  intro j
  rw [List.getElem?_set]
  have htl : ((zipC op a c).take i).length = i := by simp; omega
  have htl2 : ((zipC op a c).take (i + 1)).length = i + 1 := by simp; omega
  by_cases hij : i = j
  · subst hij
    rw [if_pos rfl, if_pos (by simp; omega), List.getElem?_append_left (by omega), List.getElem?_take, if_pos (by omega), hz]
  · rw [if_neg hij]
    by_cases hj : j < i
    · rw [List.getElem?_append_left (by omega), List.getElem?_append_left (by omega), List.getElem?_take, List.getElem?_take, if_pos hj, if_pos (by omega)]
    · rw [List.getElem?_append_right (by omega), List.getElem?_append_right (by omega), htl, htl2, List.getElem?_drop, List.getElem?_drop]
      congr 1; omega
theorem zip_at {op : Int → Int → Int} {a c : List Int} {i : Nat} {x : Int} (ha : a[i]? = some x) (hl : a.length = c.length) : ((zipC op a c).take i ++ a.drop i)[i]? = some x := by
  have hi := (List.getElem?_eq_some_iff.1 ha).1
  have hzl : (zipC op a c).length = a.length := by simp [zipC]; omega
  have htl : ((zipC op a c).take i).length = i := by simp; omega
  rw [List.getElem?_append_right (by omega), htl, Nat.sub_self, List.getElem?_drop]
  simpa using ha

set_option maxHeartbeats 1000000 in

theorem zipC_len {op : Int → Int → Int} {a c : List Int} (h : a.length = c.length) : (zipC op a c).length = a.length := by simp [zipC]; omega
/-- The lists that come behind the first i of those behind the head. -/
def foldN (op : Int → Int → Int) (d : List Int) (r : List (List Int)) (i : Nat) : List Int := (r.take i).foldl (zipC op) d
theorem foldN_succ {op : Int → Int → Int} {d : List Int} {r : List (List Int)} {i : Nat} {c : List Int} (h : r[i]? = some c) : foldN op d r (i + 1) = zipC op (foldN op d r i) c := by
  unfold foldN
  rw [List.take_add_one, h]
  simp
theorem foldN_len {op : Int → Int → Int} {d : List Int} {r : List (List Int)} (h : ∀ c ∈ r, c.length = d.length) : ∀ i, (foldN op d r i).length = d.length
  | 0 => rfl
  | i + 1 => by
    cases hr : r[i]? with
    | none =>
      have := foldN_len h (op := op) i
      unfold foldN at this ⊢
      rw [List.take_add_one, hr]
      simpa using this
    | some c =>
      have ih := foldN_len h (op := op) i
      rw [foldN_succ hr, zipC_len (by rw [ih, h c (List.mem_of_getElem? hr)]), ih]
theorem fold_o {g : FuncId} {op : Int → Int → Int} (hg : ∀ x y, CallP Tryz.prog g [.val (.int .i64 x), .val (.int .i64 y)] (.val (.int .i64 (op x y)))) (he : en g = true) (d : List Int) (r : List (List Int)) (hal : AlikeC (d :: r)) :
    CallO Tryz.prog 75 [.fn g [], clks (d :: r)] 3 1 ((d :: r).tail.foldl (zipC op) d) intC := by
  have hd := hal.2 d (by simp)
  have hd2 := hd.1.2
  have hr : ∀ c ∈ r, c.length = d.length := fun c hc => (hal.2 c (by simp [hc])).2
  have hd0 : (d :: r)[0]? = some d := rfl
  refine CallA.of pg ord75 Tryz.func75 rfl Tryz.ntmps75 Tryz.results75 rfl fun h0 G0 O0 => ?_
  repeat' (first | refine Sp.h ?_ | refine Lk.r rfl ?_ | refine Rf.mk rfl ?_ | fail)
  (apply Cl.p (alike_p _); (focus repeat' (first | exact Lend.nil | apply Lend.keep | fail)))
  repeat' (first | refine Sp.h ?_ | refine Lk.r rfl ?_ | refine Rf.mk rfl ?_ | (apply Bd.t; (focus (first | assumption | omega | rfl))) | (apply Ix.q; (focus exact rfl); (focus assumption)) | fail)
  have hl : d.length ≤ 1000000000 := by omega
  (refine Cl.use (clone_o d hl) (by repeat' (first | exact Lend.nil | apply Lend.keep | fail)) .nil rfl ?_; rintro _ _ ⟨_, rfl, rfl⟩)
  repeat' (first | refine Sp.h ?_ | refine Lk.r rfl ?_ | refine Rf.mk rfl ?_ | (refine Im.mk ?_; intro _) | (apply Jx.r; (focus exact rfl); (focus first | omega | (simp; done) | (simp; omega))) | fail)
  rw [show List.take ((d :: r).length - 1) (List.drop 1 (d :: r)) = r by simp]
  repeat' (first | fail)
  rename_i w hrl
  have hrl : r.length ≤ 9223372036854775807 := by simpa using hrl
  refine CA.loop (fun x : Nat × Value => ⟨[(0, .fn g []), (18, clks r), (19, .val (.int .i64 r.length)), (20, .val (.int .i64 x.1)), (5, .ow x.2)], [arrR x.2 3 1 (foldN op d r x.1) intC]⟩)
    (fun x => x.1 ≤ r.length) (fun x => r.length - x.1) (0, w) ⟨by (repeat (first | exact trivial | refine ⟨rfl, ?_⟩)), by (repeat (first | exact Subl.nil | refine Subl.cons (by (repeat (first | exact Take.here | apply Take.there))) ?_))⟩ (Nat.zero_le _) ?_
  rintro ⟨k, v⟩ hk
  simp only at hk
  by_cases hin : k < r.length
  · obtain ⟨c, hc⟩ := get_of hin
    have hcl := hr c (List.mem_of_getElem? hc)
    have hfl := foldN_len (op := op) hr k
    repeat' (first | refine Sp.h ?_ | refine Lk.r rfl ?_ | refine Rf.mk rfl ?_ | (apply Bd.t; (focus (first | assumption | omega | rfl))) | (refine Im.mk ?_; intro _) | (apply Ix.q; (focus exact rfl); (focus assumption)) | fail)
    obtain ⟨A, hA⟩ : ∃ A, A = foldN op d r k := ⟨_, rfl⟩
    rw [← hA] at hfl
    refine CA.loop (fun x : Nat × Value => ⟨[(0, .fn g []), (18, clks r), (19, .val (.int .i64 r.length)), (20, .val (.int .i64 k)), (24, ints c), (25, .val (.int .i64 c.length)), (26, .val (.int .i64 x.1)), (5, .ow x.2)], [arrR x.2 3 1 ((zipC op A c).take x.1 ++ A.drop x.1) intC]⟩)
      (fun x => x.1 ≤ c.length) (fun x => c.length - x.1) (0, v) (by subst hA; exact ⟨by (repeat (first | exact trivial | refine ⟨rfl, ?_⟩)), by (repeat (first | exact Subl.nil | refine Subl.cons (by (repeat (first | exact Take.here | apply Take.there))) ?_))⟩) (Nat.zero_le _) ?_
    rintro ⟨i, v⟩ hi
    simp only at hi
    by_cases hic : i < c.length
    · obtain ⟨y, hy⟩ := get_of hic
      obtain ⟨x, hx⟩ := get_of (l := A) (i := i) (by omega)
      have hat := zip_at (op := op) (c := c) hx (by omega)
      have hst := zip_step (op := op) hx hy (by omega)
      repeat' (first | refine Sp.h ?_ | refine Lk.r rfl ?_ | refine Rf.mk rfl ?_ | (apply Bd.t; (focus (first | assumption | omega | rfl))) | (apply TkA.r; (focus (repeat (first | exact Take.here | apply Take.there)))) | (apply Ix.q; (focus exact rfl); (focus assumption)) | (apply At.r; (focus assumption)) | (apply Rf.mk; (focus assumption)) | fail)
      (apply Cl.p (hg x y); (focus repeat' (first | exact Lend.nil | apply Lend.keep | fail)))
      repeat' (first | refine Sp.h ?_ | refine Lk.r rfl ?_ | refine Rf.mk rfl ?_ | (apply TkA.r; (focus (repeat (first | exact Take.here | apply Take.there)))) | (apply Ix.q; (focus exact rfl); (focus assumption)) | (apply At.r; (focus assumption)) | (apply SetAk.r; (focus (repeat (first | assumption | exact SetA.z | apply SetA.s)))) | refine Up.r rfl ?_ | (apply Ov.n; (focus first | omega | (simp <;> omega))) | fail)
      rw [hst]
      exact PA.lp (i + 1, v) ⟨by (repeat (first | exact trivial | refine ⟨rfl, ?_⟩)), by (repeat (first | exact Subl.nil | refine Subl.cons (by (repeat (first | exact Take.here | apply Take.there))) ?_))⟩ ⟨hic, by simp only; omega⟩
    · have : i = c.length := by omega
      subst this
      have e1 : (zipC op A c).take c.length ++ A.drop c.length = zipC op A c := by
        rw [List.drop_of_length_le (by omega), List.append_nil, List.take_of_length_le (by rw [zipC_len (by omega)]; omega)]
      simp only [e1]
      repeat' (first | refine Sp.h ?_ | refine Lk.r rfl ?_ | refine Rf.mk rfl ?_ | (apply Bd.f; (focus (first | assumption | omega | exact Bool.false_ne_true))) | (apply Ov.n; (focus first | omega | (simp <;> omega))) | fail)
      refine PA.lp (k + 1, v) (by rw [foldN_succ hc, ← hA]; exact ⟨by (repeat (first | exact trivial | refine ⟨rfl, ?_⟩)), by (repeat (first | exact Subl.nil | refine Subl.cons (by (repeat (first | exact Take.here | apply Take.there))) ?_))⟩) ⟨hin, by simp only; omega⟩
  · have : k = r.length := by omega
    subst this
    repeat' (first | refine Sp.h ?_ | refine Lk.r rfl ?_ | refine Rf.mk rfl ?_ | (apply Bd.f; (focus (first | assumption | omega | exact Bool.false_ne_true))) | (apply Nm.r; (focus repeat (first | apply LN.cons | exact LN.nil))) | fail)
    have e1 : foldN op d r r.length = (d :: r).tail.foldl (zipC op) d := by simp [foldN]
    simp only [e1]
    exact ⟨_, _, .one (.same (.nil (by (repeat (first | exact Subl.nil | refine Subl.cons (by (repeat (first | exact Take.here | apply Take.there))) ?_))))), _, rfl, rfl⟩
theorem join1_p (x y : Int) : CallP Tryz.prog 76 [.val (.int .i64 x), .val (.int .i64 y)] (.val (.int .i64 (max x y))) := by
  refine CallA.of pg ord76 Tryz.func76 rfl Tryz.ntmps76 Tryz.results76 rfl fun h0 G0 O0 => ?_
  repeat' (first | refine Sp.h ?_ | refine Lk.r rfl ?_ | refine Rf.mk rfl ?_ | (apply Nm.r; (focus repeat (first | apply LN.cons | exact LN.nil))) | fail)
  exact Fin.p rfl rfl
theorem meet1_p (x y : Int) : CallP Tryz.prog 97 [.val (.int .i64 x), .val (.int .i64 y)] (.val (.int .i64 (min x y))) := by
  refine CallA.of pg ord97 Tryz.func97 rfl Tryz.ntmps97 Tryz.results97 rfl fun h0 G0 O0 => ?_
  repeat' (first | refine Sp.h ?_ | refine Lk.r rfl ?_ | refine Rf.mk rfl ?_ | (apply Nm.r; (focus repeat (first | apply LN.cons | exact LN.nil))) | fail)
  exact Fin.p rfl rfl
theorem alike_cons {l : List (List Int)} (h : AlikeC l) : ∃ d r, l = d :: r := by
  cases l with
  | nil => exact absurd h.1 (by simp)
  | cons d r => exact ⟨d, r, rfl⟩
theorem join_o (l : List (List Int)) (hal : AlikeC l) : CallO Tryz.prog 36 [clks l] 3 1 (foldC max l) intC := by
  obtain ⟨d, r, rfl⟩ := alike_cons hal
  refine CallA.of pg ord36 Tryz.func36 rfl Tryz.ntmps36 Tryz.results36 rfl fun h0 G0 O0 => ?_
  repeat' (first | refine Sp.h ?_ | refine Lk.r rfl ?_ | refine Rf.mk rfl ?_ | fail)
  have he : en 76 = true := rfl
  (refine Cl.use (fold_o join1_p he d r hal) (by repeat' (first | exact Lend.nil | apply Lend.keep | fail)) .nil rfl ?_; rintro _ _ ⟨_, rfl, rfl⟩)
  repeat' (first | refine Sp.h ?_ | refine Lk.r rfl ?_ | (apply Nm.r; (focus repeat (first | apply LN.cons | exact LN.nil))) | fail)
  exact ⟨_, _, .one (.same (.nil (by (repeat (first | exact Subl.nil | refine Subl.cons (by (repeat (first | exact Take.here | apply Take.there))) ?_))))), _, rfl, rfl⟩
theorem meet_o (l : List (List Int)) (hal : AlikeC l) : CallO Tryz.prog 62 [clks l] 3 1 (foldC min l) intC := by
  obtain ⟨d, r, rfl⟩ := alike_cons hal
  refine CallA.of pg ord62 Tryz.func62 rfl Tryz.ntmps62 Tryz.results62 rfl fun h0 G0 O0 => ?_
  repeat' (first | refine Sp.h ?_ | refine Lk.r rfl ?_ | refine Rf.mk rfl ?_ | fail)
  have he : en 97 = true := rfl
  (refine Cl.use (fold_o meet1_p he d r hal) (by repeat' (first | exact Lend.nil | apply Lend.keep | fail)) .nil rfl ?_; rintro _ _ ⟨_, rfl, rfl⟩)
  repeat' (first | refine Sp.h ?_ | refine Lk.r rfl ?_ | (apply Nm.r; (focus repeat (first | apply LN.cons | exact LN.nil))) | fail)
  exact ⟨_, _, .one (.same (.nil (by (repeat (first | exact Subl.nil | refine Subl.cons (by (repeat (first | exact Take.here | apply Take.there))) ?_))))), _, rfl, rfl⟩
end Go.Proofs.YtpgpdmmobblffaaGreat
namespace Go.Proofs.YtpgpdmmobblffaaGreat
open Go Go.CF
set_option maxRecDepth 20000
theorem insideR_p (a b : List Int) : CallP Tryz.prog 29 [ints a, ints b] (.val (.bool (decide (Ins a b)))) := by
  refine CallA.of pg ord29 Tryz.func29 rfl Tryz.ntmps29 Tryz.results29 rfl fun h0 G0 O0 => ?_
  repeat' (first | refine Sp.h ?_ | refine Lk.r rfl ?_ | refine Rf.mk rfl ?_ | fail)
  refine CA.loop (fun i : Nat => ⟨[(0, ints a), (1, ints b), (5, .val (.int .i64 i))], []⟩) (fun i => i ≤ a.length ∧ ∀ j x y, j < i → a[j]? = some x → b[j]? = some y → x ≤ y) (fun i => a.length - i) 0 ⟨by (repeat (first | exact trivial | refine ⟨rfl, ?_⟩)), by (repeat (first | exact Subl.nil | refine Subl.cons (by (repeat (first | exact Take.here | apply Take.there))) ?_))⟩ ⟨Nat.zero_le _, fun j x y h => by omega⟩ ?_
  rintro i ⟨hi, ha⟩
  by_cases hin : i < a.length ∧ i < b.length
  · obtain ⟨x, hx⟩ := get_of hin.1
    obtain ⟨y, hy⟩ := get_of hin.2
    repeat' (first | refine Sp.h ?_ | refine Lk.r rfl ?_ | refine Rf.mk rfl ?_ | (apply Bd.t; (focus (first | assumption | omega | rfl))) | (refine Bd.mk ?_ ?_ <;> intro _) | refine OpK.r rfl ?_ | (refine Im.mk ?_; intro _) | (apply Ix.q; (focus exact rfl); (focus assumption)) | (apply Nm.r; (focus repeat (first | apply LN.cons | exact LN.nil))) | (apply CA.draw; (focus rfl); (focus kernel_rfl); (focus kernel_rfl); (focus repeat' (first | apply ON.one | exact ON.done | exact ON.none | apply ON.alt)); (focus rfl)) | (apply Ov.n; (focus first | omega | (simp <;> omega))) | fail)
    · rename_i hxy
      exact Fin.p rfl (vb (decide_eq_false (fun h => by have := h i x y hx hy; omega)).symm)
    · rename_i hxy
      refine PA.lp (i + 1) ⟨by (repeat (first | exact trivial | refine ⟨rfl, ?_⟩)), by (repeat (first | exact Subl.nil | refine Subl.cons (by (repeat (first | exact Take.here | apply Take.there))) ?_))⟩ ⟨⟨hin.1, fun j x' y' hj h1 h2 => ?_⟩, by omega⟩
      by_cases e : j = i
      · subst e; rw [hx] at h1; rw [hy] at h2; cases h1; cases h2; omega
      · exact ha j x' y' (by omega) h1 h2
  · repeat' (first | refine Sp.h ?_ | refine Lk.r rfl ?_ | refine Rf.mk rfl ?_ | (apply Bd.t; (focus (first | assumption | omega | rfl))) | (apply Bd.f; (focus (first | assumption | omega | exact Bool.false_ne_true))) | (refine Bd.mk ?_ ?_ <;> intro _) | (refine Im.mk ?_; intro _) | (apply Nm.r; (focus repeat (first | apply LN.cons | exact LN.nil))) | fail)
    all_goals exact Fin.p rfl (vb (decide_eq_true (p := Ins a b) (fun j x y h1 h2 => ha j x y (by have := (List.getElem?_eq_some_iff.1 h1).1; have := (List.getElem?_eq_some_iff.1 h2).1; omega) h1 h2)).symm)
theorem intsR_p (a b : List Int) : CallP Tryz.prog 57 [ints a, ints b] (.val (.bool (decide (a = b)))) := by
  refine CallA.of pg ord57 Tryz.func57 rfl Tryz.ntmps57 Tryz.results57 rfl fun h0 G0 O0 => ?_
  repeat' (first | refine Sp.h ?_ | refine Lk.r rfl ?_ | refine Rf.mk rfl ?_ | (refine Bd.mk ?_ ?_ <;> intro _) | (refine Im.mk ?_; intro _) | (apply Nm.r; (focus repeat (first | apply LN.cons | exact LN.nil))) | fail)
  · refine CA.loop (fun i : Nat => ⟨[(0, ints a), (1, ints b), (5, .val (.int .i64 i))], []⟩) (fun i => i ≤ a.length ∧ a.take i = b.take i) (fun i => a.length - i) 0 ⟨by (repeat (first | exact trivial | refine ⟨rfl, ?_⟩)), by (repeat (first | exact Subl.nil | refine Subl.cons (by (repeat (first | exact Take.here | apply Take.there))) ?_))⟩ ⟨Nat.zero_le _, by simp⟩ ?_
    rintro i ⟨hi, heq⟩
    by_cases hin : i < a.length
    · obtain ⟨x, hx⟩ := get_of hin
      obtain ⟨y, hy⟩ := get_of (l := b) (i := i) (by omega)
      repeat' (first | refine Sp.h ?_ | refine Lk.r rfl ?_ | refine Rf.mk rfl ?_ | (apply Bd.t; (focus (first | assumption | omega | rfl))) | (refine Bd.mk ?_ ?_ <;> intro _) | refine OpK.r rfl ?_ | (refine Im.mk ?_; intro _) | (apply Ix.q; (focus exact rfl); (focus assumption)) | (apply Nm.r; (focus repeat (first | apply LN.cons | exact LN.nil))) | (apply CA.draw; (focus rfl); (focus kernel_rfl); (focus kernel_rfl); (focus repeat' (first | apply ON.one | exact ON.done | exact ON.none | apply ON.alt)); (focus rfl)) | (apply Ov.n; (focus first | omega | (simp <;> omega))) | fail)
      · refine PA.lp (i + 1) ⟨by (repeat (first | exact trivial | refine ⟨rfl, ?_⟩)), by (repeat (first | exact Subl.nil | refine Subl.cons (by (repeat (first | exact Take.here | apply Take.there))) ?_))⟩ ⟨⟨hin, ?_⟩, by omega⟩
        rw [List.take_add_one, List.take_add_one, hx, hy, heq, show x = y by omega]
      · rename_i hxy
        refine Fin.p rfl (vb (decide_eq_false (fun e => hxy ?_)).symm)
        subst e; rw [hx] at hy; cases hy; rfl
    · have : i = a.length := by omega
      subst this
      repeat' (first | refine Sp.h ?_ | refine Lk.r rfl ?_ | refine Rf.mk rfl ?_ | (apply Bd.f; (focus (first | assumption | omega | exact Bool.false_ne_true))) | (refine Im.mk ?_; intro _) | (apply Nm.r; (focus repeat (first | apply LN.cons | exact LN.nil))) | fail)
      refine Fin.p rfl (vb (decide_eq_true ?_).symm)
      rw [List.take_length] at heq
      rw [heq, List.take_of_length_le (by omega)]
  · rename_i h
    exact Fin.p rfl (vb (decide_eq_false (fun e => h (by rw [e]))).symm)
/-! ### Events -/
structure EvS where
  rep : Int
  num : Int
  time : Int
  past : List Int
  kind : Int
  action : Int
  gk : Int
  gi : Int
  ge : Int
  ga : Int
  to : Int
  place : Int
  serial : Int
abbrev iv (x : Int) : AV := .val (.int .i64 x)
def evC (e : EvS) : List AV := [iv e.rep, iv e.num, iv e.time, ints e.past, iv e.kind, iv e.action, iv e.gk, iv e.gi, iv e.ge, iv e.ga, iv e.to, iv e.place, iv e.serial]
abbrev evA' (e : EvS) : AV := .agg (evC e)
abbrev evs (l : List EvS) : AV := .sl 13 l evC
theorem name_p (e : EvS) : CallP Tryz.prog 74 [evA' e] (dotC e.rep e.num) := by
  refine CallA.of pg ord74 Tryz.func74 rfl Tryz.ntmps74 Tryz.results74 rfl fun h0 G0 O0 => ?_
  repeat' (first | refine Sp.h ?_ | refine Lk.r rfl ?_ | refine Rf.mk rfl ?_ | (refine All.mk ?_; intro _) | (apply TkB.r; (focus (repeat (first | exact Take.here | apply Take.there)))) | (apply SetAsk.r; (focus (repeat (first | exact SetAs.z | (apply SetAs.c; (focus (repeat (first | assumption | exact SetA.z | apply SetA.s)))))))) | (apply Fk.r; (focus (repeat (first | exact FillA.nil | (apply FillA.agg; (focus rfl); (focus rfl); (focus (repeat (first | exact SetAs.z | (apply SetAs.c; (focus (repeat (first | assumption | exact SetA.z | apply SetA.s)))))))) | (apply FillA.one; (focus rfl); (focus infer_instance); (focus (repeat (first | assumption | exact SetA.z | apply SetA.s)))))))) | (apply Nm.r; (focus repeat (first | apply LN.cons | exact LN.nil))) | fail)
  exact Fin.p rfl rfl
def Btw (n lo hi : Int) : Prop := lo ≤ n ∧ n ≤ hi
instance (n lo hi : Int) : Decidable (Btw n lo hi) := inferInstanceAs (Decidable (_ ∧ _))
theorem between_p (n lo hi : Int) : CallP Tryz.prog 120 [iv n, iv lo, iv hi] (.val (.bool (decide (Btw n lo hi)))) := by
  refine CallA.of pg ord120 Tryz.func120 rfl Tryz.ntmps120 Tryz.results120 rfl fun h0 G0 O0 => ?_
  repeat' (first | refine Sp.h ?_ | refine Lk.r rfl ?_ | refine Rf.mk rfl ?_ | (apply Bd.t; (focus (first | assumption | omega | rfl))) | (apply Bd.f; (focus (first | assumption | omega | exact Bool.false_ne_true))) | (refine Bd.mk ?_ ?_ <;> intro _) | (apply Nm.r; (focus repeat (first | apply LN.cons | exact LN.nil))) | fail)
  all_goals refine Fin.p rfl (vb ?_)
  · exact decide_eq_decide.2 (by unfold Btw; omega)
  · exact (decide_eq_false (by unfold Btw; omega)).symm
end Go.Proofs.YtpgpdmmobblffaaGreat
namespace Go.Proofs.YtpgpdmmobblffaaGreat
open Go Go.CF
set_option maxRecDepth 20000
theorem rdInt : RdT Tryz.prog 3 (Rp.int .i64) := RdT.int Tryz.underlying3 (by kernel_rfl)
theorem rdInts : RdT Tryz.prog 22 (Rp.int .i64).slice := RdT.slice Tryz.underlying22 (by kernel_rfl) rdInt (by decide)
abbrev RightT := Int × Int × Int × Unit
def Rp.rightT : Rp RightT := (Rp.int .i64).pair ((Rp.int .i64).pair ((Rp.int .i64).pair Rp.unit))
theorem rdRight : RdT Tryz.prog 33 Rp.rightT := RdT.struct Tryz.underlying33 rfl (by kernel_rfl) (RdF.cons rfl rdInt rfl (RdF.cons rfl rdInt rfl (RdF.cons rfl rdInt rfl RdF.nil)))
abbrev NeedT := RightT × Int × Unit
def Rp.needT : Rp NeedT := Rp.rightT.pair ((Rp.int .i64).pair Rp.unit)
theorem rdNeed : RdT Tryz.prog 35 Rp.needT := RdT.struct Tryz.underlying35 rfl (by kernel_rfl) (RdF.cons rfl rdRight rfl (RdF.cons rfl rdInt rfl RdF.nil))
abbrev EventT := Int × Int × Int × List Int × Int × Int × NeedT × Int × Int × Int × Unit
def Rp.eventT : Rp EventT := (Rp.int .i64).pair ((Rp.int .i64).pair ((Rp.int .i64).pair ((Rp.int .i64).slice.pair ((Rp.int .i64).pair ((Rp.int .i64).pair (Rp.needT.pair ((Rp.int .i64).pair ((Rp.int .i64).pair ((Rp.int .i64).pair Rp.unit)))))))))
theorem rdEvent : RdT Tryz.prog 37 Rp.eventT := RdT.struct Tryz.underlying37 rfl (by kernel_rfl)
  (RdF.cons rfl rdInt rfl (RdF.cons rfl rdInt rfl (RdF.cons rfl rdInt rfl (RdF.cons rfl rdInts rfl (RdF.cons rfl rdInt rfl (RdF.cons rfl rdInt rfl (RdF.cons rfl rdNeed rfl (RdF.cons rfl rdInt rfl (RdF.cons rfl rdInt rfl (RdF.cons rfl rdInt rfl RdF.nil))))))))))
def evOf : EventT → EvS
  | (rep, num, time, past, kind, action, ((gk, gi, ge, ()), ga, ()), to, place, serial, ()) =>
    { rep := rep, num := num, time := time, past := past, kind := kind, action := action, gk := gk, gi := gi, ge := ge, ga := ga, to := to, place := place, serial := serial }
def evIn (e : EvS) : EventT := (e.rep, e.num, e.time, e.past, e.kind, e.action, ((e.gk, e.gi, e.ge, ()), e.ga, ()), e.to, e.place, e.serial, ())
/-- An event that is read. -/
def Rp.event : Rp EvS := Rp.eventT.iso evIn
theorem rdEv : RdT Tryz.prog 37 Rp.event := RdT.iso rdEvent evIn evOf (fun _ => rfl)
theorem rdEvs : RdT Tryz.prog 40 Rp.event.slice := RdT.slice Tryz.underlying40 (by kernel_rfl) rdEv (by decide)
theorem avInts : Avr (Rp.int .i64).slice fun l => [ints l] := Avr.int.slice
theorem avEvent : Avr Rp.event evC :=
  ((Avr.int.pair (Avr.int.pair (Avr.int.pair (avInts.pair (Avr.int.pair (Avr.int.pair (((Avr.int.pair (Avr.int.pair (Avr.int.pair Avr.unit))).pair (Avr.int.pair Avr.unit)).pair (Avr.int.pair (Avr.int.pair (Avr.int.pair Avr.unit)))))))))).iso evIn).cast fun _ => rfl
theorem avEvs : Avr Rp.event.slice fun l => [evs l] := avEvent.slice
end Go.Proofs.YtpgpdmmobblffaaGreat
namespace Go.Proofs.YtpgpdmmobblffaaGreat
open Go Go.CF Go.ChangeShapes Go.WideShapes Go.ChangeAt Go.RowKit
set_option maxRecDepth 100000

theorem knob : ownKnob Tryz.prog.godebug = none := by kernel_rfl
theorem laid : laidOutB Tryz.prog = true := by kernel_rfl
theorem sliceArg {W : World} {r : Reach} {b : Nat} {t e : TypeId} {v : Value} {α : Type} {R : Rp α} {l : List α} (ht : Tryz.prog.underlying t = some (.slice e)) (hv : Value.okWide Tryz.prog W r b t v) (h : R.slice.R W.heap (Old W.heap) v.cells.toList l) : R.slice.R W.heap (Old W.heap) [v] l := by
  rw [CF.okWide_slice ht hv] at h; exact h
end Go.Proofs.YtpgpdmmobblffaaGreat
namespace Go.CF
open Go Go.ChangeShapes Go.WideShapes Go.ChangeAt Go.RowKit
def Rp.str : Rp ByteArray where
  sz := 1
  R := fun _ _ cs a => cs = [.string a]
  len := by rintro _ _ _ _ rfl; rfl
  one := by rintro _ _ _ _ rfl u hu; simp at hu; subst hu; rfl
  stp := fun _ _ h => h
  mono := fun _ h => h
  lt := fun h => h
theorem RdT.str {P : Program} {t : TypeId} (ht : P.underlying t = some .string) (hc : P.cellsOf t = 1) : RdT P t Rp.str :=
  ⟨hc, fun h => by obtain ⟨b, h1, _⟩ := DataW.trod_string ht h; exact ⟨b, h1⟩⟩
theorem Avr.str : Avr Rp.str fun s => [.val (.string s)] := ⟨by rintro _ _ _ _ rfl; exact ⟨⟨rfl, trivial⟩, fun u hu => by rw [List.mem_singleton.1 hu]; rfl⟩⟩
theorem Avr.bool : Avr Rp.bool fun b => [.val (.bool b)] := ⟨by rintro _ _ _ _ rfl; exact ⟨⟨rfl, trivial⟩, fun u hu => by rw [List.mem_singleton.1 hu]; rfl⟩⟩
/-- A struct that is given. -/
theorem Avr.agg {α : Type} {r : Rp α} {f : α → List AV} (ha : Avr r f) {h : Heap} {F : Nat → Prop} {v : Value} {a : α} (hv : v = .agg v.cells) (hr : r.R h F v.cells.toList a) : (AV.agg (f a)).R h F v := ⟨v.cells.toList, by simpa using hv, ha.rep hr⟩
end Go.CF
namespace Go.Proofs.YtpgpdmmobblffaaGreat
open Go Go.CF
set_option maxRecDepth 20000
abbrev sv (s : ByteArray) : AV := .val (.string s)
def isWhite (x : Int) : Prop := x = 9 ∨ x = 10 ∨ x = 13 ∨ x = 32
noncomputable instance (x : Int) : Decidable (isWhite x) := Classical.propDecidable _
theorem white_p (x : Int) : CallP Tryz.prog 187 [.val (.int .u8 x)] (.val (.bool (decide (isWhite x)))) := by
  refine CallA.of pg ord187 Tryz.func187 rfl Tryz.ntmps187 Tryz.results187 rfl fun h0 G0 O0 => ?_
  repeat' (first | refine Sp.h ?_ | refine Lk.r rfl ?_ | refine Rf.mk rfl ?_ | (apply Bd.t; (focus (first | assumption | omega | rfl))) | (apply Bd.f; (focus (first | assumption | omega | exact Bool.false_ne_true))) | (refine Bd.mk ?_ ?_ <;> intro _) | (apply Nm.r; (focus repeat (first | apply LN.cons | exact LN.nil))) | fail)
  all_goals refine Fin.p rfl (vb ?_)
  all_goals first
    | exact decide_eq_decide.2 (by unfold isWhite; omega)
    | exact (decide_eq_true (by unfold isWhite; omega)).symm
def isLetter (x : Int) : Prop := 97 ≤ x ∧ x ≤ 122
noncomputable instance (x : Int) : Decidable (isLetter x) := Classical.propDecidable _
theorem letter_p (x : Int) : CallP Tryz.prog 188 [.val (.int .u8 x)] (.val (.bool (decide (isLetter x)))) := by
  refine CallA.of pg ord188 Tryz.func188 rfl Tryz.ntmps188 Tryz.results188 rfl fun h0 G0 O0 => ?_
  repeat' (first | refine Sp.h ?_ | refine Lk.r rfl ?_ | refine Rf.mk rfl ?_ | (apply Bd.t; (focus (first | assumption | omega | rfl))) | (apply Bd.f; (focus (first | assumption | omega | exact Bool.false_ne_true))) | (refine Bd.mk ?_ ?_ <;> intro _) | (apply Nm.r; (focus repeat (first | apply LN.cons | exact LN.nil))) | fail)
  all_goals refine Fin.p rfl (vb ?_)
  all_goals first
    | exact decide_eq_decide.2 (by unfold isLetter; omega)
    | exact (decide_eq_false (by unfold isLetter; omega)).symm
def isDigit (x : Int) : Prop := 48 ≤ x ∧ x ≤ 57
noncomputable instance (x : Int) : Decidable (isDigit x) := Classical.propDecidable _
theorem digit_p (x : Int) : CallP Tryz.prog 189 [.val (.int .u8 x)] (.val (.bool (decide (isDigit x)))) := by
  refine CallA.of pg ord189 Tryz.func189 rfl Tryz.ntmps189 Tryz.results189 rfl fun h0 G0 O0 => ?_
  repeat' (first | refine Sp.h ?_ | refine Lk.r rfl ?_ | refine Rf.mk rfl ?_ | (apply Bd.t; (focus (first | assumption | omega | rfl))) | (apply Bd.f; (focus (first | assumption | omega | exact Bool.false_ne_true))) | (refine Bd.mk ?_ ?_ <;> intro _) | (apply Nm.r; (focus repeat (first | apply LN.cons | exact LN.nil))) | fail)
  all_goals refine Fin.p rfl (vb ?_)
  all_goals first
    | exact decide_eq_decide.2 (by unfold isDigit; omega)
    | exact (decide_eq_false (by unfold isDigit; omega)).symm
inductive Comm (s : ByteArray) : Nat → Nat → Prop where
  | stop {a : Nat} : ¬ (a < s.size ∧ byteAt s a ≠ 10) → Comm s a a
  | step {a j : Nat} : a < s.size → byteAt s a ≠ 10 → Comm s (a + 1) j → Comm s a j
inductive Skip (s : ByteArray) : Nat → Nat → Prop where
  | stop {a : Nat} : ¬ (a < s.size ∧ (isWhite (byteAt s a) ∨ byteAt s a = 35)) → Skip s a a
  | white {a j : Nat} : a < s.size → byteAt s a ≠ 35 → isWhite (byteAt s a) → Skip s (a + 1) j → Skip s a j
  | com {a b j : Nat} : a < s.size → byteAt s a = 35 → Comm s a b → Skip s b j → Skip s a j
theorem Comm.le {s : ByteArray} {a j : Nat} (h : Comm s a j) (ha : a ≤ s.size) : a ≤ j ∧ j ≤ s.size := by
  induction h with
  | stop => exact ⟨Nat.le_refl _, ha⟩
  | step h1 _ _ ih => have := ih h1; omega
theorem Comm.lt {s : ByteArray} {a j : Nat} (h : Comm s a j) (ha : a < s.size) (hb : byteAt s a = 35) : a < j ∧ j ≤ s.size := by
  cases h with
  | stop h => exact absurd ⟨ha, by omega⟩ h
  | step h1 _ h3 => have := h3.le h1; omega
theorem Comm.ex (s : ByteArray) : ∀ (n a : Nat), s.size - a = n → ∃ j, Comm s a j := by
  intro n
  induction n with
  | zero => exact fun a h => ⟨a, .stop (by omega)⟩
  | succ n ih =>
    intro a h
    by_cases h1 : byteAt s a = 10
    · exact ⟨a, .stop (by omega)⟩
    · obtain ⟨j, hj⟩ := ih (a + 1) (by omega)
      exact ⟨j, .step (by omega) h1 hj⟩
theorem Skip.le {s : ByteArray} {a j : Nat} (h : Skip s a j) : a ≤ s.size → a ≤ j ∧ j ≤ s.size ∧ (j < s.size → ¬ isWhite (byteAt s j) ∧ byteAt s j ≠ 35) := by
  induction h with
  | stop h => exact fun ha => ⟨Nat.le_refl _, ha, fun hl => ⟨fun h9 => h ⟨hl, .inl h9⟩, fun h9 => h ⟨hl, .inr h9⟩⟩⟩
  | white h1 _ _ _ ih => intro ha; have := ih h1; exact ⟨by omega, this.2⟩
  | com h1 h2 h3 _ ih => intro ha; have h9 := h3.lt h1 h2; have := ih h9.2; exact ⟨by omega, this.2⟩
theorem Skip.ex (s : ByteArray) (n : Nat) : ∀ a : Nat, s.size - a = n → ∃ j, Skip s a j := by
  induction n using Nat.strongRecOn with
  | ind n ih =>
    intro a h
    by_cases hc : a < s.size ∧ (isWhite (byteAt s a) ∨ byteAt s a = 35)
    · by_cases h2 : byteAt s a = 35
      · obtain ⟨b, hb⟩ := Comm.ex s _ a rfl
        have h9 := hb.lt hc.1 h2
        obtain ⟨j, hj⟩ := ih (s.size - b) (by omega) b rfl
        exact ⟨j, .com hc.1 h2 hb hj⟩
      · obtain ⟨j, hj⟩ := ih (s.size - (a + 1)) (by omega) (a + 1) rfl
        exact ⟨j, .white hc.1 h2 (hc.2.resolve_right h2) hj⟩
    · exact ⟨a, .stop hc⟩
theorem skip_p {s : ByteArray} {a j : Nat} (hs : s.size ≤ 1000000000) (ha : a ≤ s.size) (h : Skip s a j) : CallP Tryz.prog 180 [sv s, .val (.int .i64 a)] (.val (.int .i64 j)) := by
  refine CallA.of pg ord180 Tryz.func180 rfl Tryz.ntmps180 Tryz.results180 rfl fun h0 G0 O0 => ?_
  repeat' (first | refine Sp.h ?_ | refine Lk.r rfl ?_ | refine Rf.mk rfl ?_ | fail)
  refine CA.loop (fun a : Nat => ⟨[(0, sv s), (1, .val (.int .i64 a))], []⟩) (fun a => a ≤ s.size ∧ Skip s a j) (fun a => s.size - a) a ⟨by (repeat (first | exact trivial | refine ⟨rfl, ?_⟩)), by (repeat (first | exact Subl.nil | refine Subl.cons (by (repeat (first | exact Take.here | apply Take.there))) ?_))⟩ ⟨ha, h⟩ ?_
  rintro a ⟨ha, h⟩
  cases h with
  | stop hn =>
    by_cases hl : j < s.size
    · have hw : ¬ isWhite (byteAt s j) := fun h9 => hn ⟨hl, .inl h9⟩
      have h35 : byteAt s j ≠ 35 := fun h9 => hn ⟨hl, .inr h9⟩
      repeat' (first | refine Sp.h ?_ | refine Lk.r rfl ?_ | refine Rf.mk rfl ?_ | (apply Bd.t; (focus (first | assumption | omega | rfl))) | (apply Bd.f; (focus (first | assumption | omega | exact Bool.false_ne_true))) | (apply Nm.r; (focus repeat (first | apply LN.cons | exact LN.nil))) | (apply Sx.r; (focus exact rfl); (focus first | omega | (simp; omega))) | fail | (apply Cl.p (white_p _); (focus repeat' (first | exact Lend.nil | apply Lend.keep | fail))))
      exact Fin.p rfl rfl
    · repeat' (first | refine Sp.h ?_ | refine Lk.r rfl ?_ | refine Rf.mk rfl ?_ | (apply Bd.f; (focus (first | assumption | omega | exact Bool.false_ne_true))) | (apply Nm.r; (focus repeat (first | apply LN.cons | exact LN.nil))) | fail | (apply Cl.p (white_p _); (focus repeat' (first | fail))))
      exact Fin.p rfl rfl
  | white h1 h2 h3 h4 =>
    repeat' (first | refine Sp.h ?_ | refine Lk.r rfl ?_ | refine Rf.mk rfl ?_ | (apply Bd.t; (focus (first | assumption | omega | rfl))) | (apply Bd.f; (focus (first | assumption | omega | exact Bool.false_ne_true))) | (apply Sx.r; (focus exact rfl); (focus first | omega | (simp; omega))) | (apply Ov.n; (focus first | omega | (simp <;> omega))) | fail | (apply Cl.p (white_p _); (focus repeat' (first | exact Lend.nil | apply Lend.keep | fail))))
    exact PA.lp (a + 1) ⟨by (repeat (first | exact trivial | refine ⟨rfl, ?_⟩)), by (repeat (first | exact Subl.nil | refine Subl.cons (by (repeat (first | exact Take.here | apply Take.there))) ?_))⟩ ⟨⟨h1, h4⟩, by omega⟩
  | com h1 h2 h3 h4 =>
    rename_i b
    have hw : ¬ isWhite (byteAt s a) := by unfold isWhite; omega
    have hb := h3.lt h1 h2
    repeat' (first | refine Sp.h ?_ | refine Lk.r rfl ?_ | refine Rf.mk rfl ?_ | (apply Bd.t; (focus (first | assumption | omega | rfl))) | (apply Bd.f; (focus (first | assumption | omega | exact Bool.false_ne_true))) | (apply Sx.r; (focus exact rfl); (focus first | omega | (simp; omega))) | fail | (apply Cl.p (white_p _); (focus repeat' (first | exact Lend.nil | apply Lend.keep | fail))))
    refine CA.loop (fun a : Nat => ⟨[(0, sv s), (1, .val (.int .i64 a))], []⟩) (fun a => a ≤ s.size ∧ Comm s a b) (fun a => s.size - a) a ⟨by (repeat (first | exact trivial | refine ⟨rfl, ?_⟩)), by (repeat (first | exact Subl.nil | refine Subl.cons (by (repeat (first | exact Take.here | apply Take.there))) ?_))⟩ ⟨ha, h3⟩ ?_
    rintro a2 ⟨ha2, h⟩
    cases h with
    | stop hn =>
      by_cases hl : b < s.size
      · have h10 : byteAt s b = 10 := Classical.byContradiction fun h9 => hn ⟨hl, h9⟩
        repeat' (first | refine Sp.h ?_ | refine Lk.r rfl ?_ | refine Rf.mk rfl ?_ | (apply Bd.t; (focus (first | assumption | omega | rfl))) | (apply Sx.r; (focus exact rfl); (focus first | omega | (simp; omega))) | fail)
        exact PA.lp b ⟨by (repeat (first | exact trivial | refine ⟨rfl, ?_⟩)), by (repeat (first | exact Subl.nil | refine Subl.cons (by (repeat (first | exact Take.here | apply Take.there))) ?_))⟩ ⟨⟨ha2, h4⟩, by omega⟩
      · repeat' (first | refine Sp.h ?_ | refine Lk.r rfl ?_ | refine Rf.mk rfl ?_ | (apply Bd.f; (focus (first | assumption | omega | exact Bool.false_ne_true))) | fail)
        exact PA.lp b ⟨by (repeat (first | exact trivial | refine ⟨rfl, ?_⟩)), by (repeat (first | exact Subl.nil | refine Subl.cons (by (repeat (first | exact Take.here | apply Take.there))) ?_))⟩ ⟨⟨ha2, h4⟩, by omega⟩
    | step g1 g2 g3 =>
      repeat' (first | refine Sp.h ?_ | refine Lk.r rfl ?_ | refine Rf.mk rfl ?_ | (apply Bd.t; (focus (first | assumption | omega | rfl))) | (apply Bd.f; (focus (first | assumption | omega | exact Bool.false_ne_true))) | (apply Sx.r; (focus exact rfl); (focus first | omega | (simp; omega))) | (apply Ov.n; (focus first | omega | (simp <;> omega))) | fail)
      exact PA.lp (a2 + 1) ⟨by (repeat (first | exact trivial | refine ⟨rfl, ?_⟩)), by (repeat (first | exact Subl.nil | refine Subl.cons (by (repeat (first | exact Take.here | apply Take.there))) ?_))⟩ ⟨⟨g1, g3⟩, by omega⟩
def strC (q : ByteArray) : List AV := [sv q]
def HasS (l : List ByteArray) (s : ByteArray) : Prop := ∃ q ∈ l, q.toList = s.toList
noncomputable instance (l : List ByteArray) (s : ByteArray) : Decidable (HasS l s) := Classical.propDecidable _
theorem has_p (l : List ByteArray) (s : ByteArray) : CallP Tryz.prog 111 [.sl 1 l strC, sv s] (.val (.bool (decide (HasS l s)))) := by
  refine CallA.of pg ord111 Tryz.func111 rfl Tryz.ntmps111 Tryz.results111 rfl fun h0 G0 O0 => ?_
  repeat' (first | refine Sp.h ?_ | refine Lk.r rfl ?_ | refine Rf.mk rfl ?_ | fail)
  refine CA.loop (fun i : Nat => ⟨[(0, .sl 1 l strC), (1, sv s), (5, .val (.int .i64 i))], []⟩) (fun i => i ≤ l.length ∧ ∀ j q, j < i → l[j]? = some q → q.toList ≠ s.toList) (fun i => l.length - i) 0 ⟨by (repeat (first | exact trivial | refine ⟨rfl, ?_⟩)), by (repeat (first | exact Subl.nil | refine Subl.cons (by (repeat (first | exact Take.here | apply Take.there))) ?_))⟩ ⟨Nat.zero_le _, fun j q h => by omega⟩ ?_
  rintro i ⟨hi, hj⟩
  by_cases hin : i < l.length
  · obtain ⟨q, hq⟩ := get_of hin
    repeat' (first | refine Sp.h ?_ | refine Lk.r rfl ?_ | refine Rf.mk rfl ?_ | (apply Bd.t; (focus (first | assumption | omega | rfl))) | (refine Bd.mk ?_ ?_ <;> intro _) | (refine Im.mk ?_; intro _) | (apply Ix.q; (focus exact rfl); (focus assumption)) | (apply Nm.r; (focus repeat (first | apply LN.cons | exact LN.nil))) | (apply Ov.n; (focus first | omega | (simp <;> omega))) | fail)
    · rename_i h
      exact Fin.p rfl (vb (decide_eq_true (show HasS l s from ⟨q, List.mem_of_getElem? hq, h⟩)).symm)
    · rename_i h
      refine PA.lp (i + 1) ⟨by (repeat (first | exact trivial | refine ⟨rfl, ?_⟩)), by (repeat (first | exact Subl.nil | refine Subl.cons (by (repeat (first | exact Take.here | apply Take.there))) ?_))⟩ ⟨⟨hin, fun j y h1 h2 => ?_⟩, by omega⟩
      by_cases hij : j = i
      · subst hij; rw [hq] at h2; cases h2; exact h
      · exact hj j y (by omega) h2
  · repeat' (first | refine Sp.h ?_ | refine Lk.r rfl ?_ | refine Rf.mk rfl ?_ | (apply Bd.f; (focus (first | assumption | omega | exact Bool.false_ne_true))) | (refine Im.mk ?_; intro _) | (apply Nm.r; (focus repeat (first | apply LN.cons | exact LN.nil))) | fail)
    refine Fin.p rfl (vb (decide_eq_false ?_).symm)
    rintro ⟨q, hq, h⟩
    obtain ⟨j, hq⟩ := List.getElem?_of_mem hq
    exact hj j q (by have := (List.getElem?_eq_some_iff.1 hq).1; omega) hq h
def symL : List ByteArray := [⟨#[61, 61]⟩, ⟨#[33, 61]⟩, ⟨#[60, 61]⟩, ⟨#[62, 61]⟩, ⟨#[46, 46]⟩, ⟨#[60]⟩, ⟨#[62]⟩, ⟨#[61]⟩, ⟨#[43]⟩, ⟨#[45]⟩, ⟨#[42]⟩, ⟨#[40]⟩, ⟨#[41]⟩, ⟨#[123]⟩, ⟨#[125]⟩, ⟨#[44]⟩, ⟨#[58]⟩, ⟨#[59]⟩]
def kwL : List ByteArray := [⟨#[115, 111, 114, 116]⟩, ⟨#[114, 101, 108, 97, 116, 105, 111, 110]⟩, ⟨#[99, 111, 117, 110, 116, 101, 114]⟩, ⟨#[115, 101, 116]⟩, ⟨#[114, 101, 103, 105, 115, 116, 101, 114]⟩, ⟨#[105, 110, 118, 97, 114, 105, 97, 110, 116]⟩, ⟨#[111, 112, 101, 114, 97, 116, 105, 111, 110]⟩, ⟨#[107, 101, 121]⟩, ⟨#[114, 101, 102, 101, 114, 101, 110, 99, 101]⟩, ⟨#[116, 111]⟩, ⟨#[99, 111, 117, 110, 116]⟩, ⟨#[97, 99, 121, 99, 108, 105, 99]⟩, ⟨#[97, 108, 108]⟩, ⟨#[115, 117, 109]⟩, ⟨#[105, 110]⟩, ⟨#[97, 100, 100, 119, 105, 110, 115]⟩, ⟨#[114, 101, 109, 111, 118, 101, 119, 105, 110, 115]⟩, ⟨#[108, 97, 115, 116]⟩, ⟨#[109, 117, 108, 116, 105]⟩, ⟨#[104, 105, 100, 101]⟩, ⟨#[111, 114, 100, 101, 114, 101, 100]⟩, ⟨#[114, 101, 113, 117, 105, 114, 101]⟩, ⟨#[104, 111, 108, 100]⟩, ⟨#[105, 110, 115, 101, 114, 116]⟩, ⟨#[100, 101, 108, 101, 116, 101]⟩, ⟨#[97, 100, 100]⟩, ⟨#[102, 114, 111, 109]⟩, ⟨#[112, 117, 116]⟩, ⟨#[100, 114, 111, 112]⟩, ⟨#[97, 115, 115, 105, 103, 110]⟩, ⟨#[102, 111, 114]⟩, ⟨#[119, 104, 101, 114, 101]⟩, ⟨#[97, 110, 100]⟩, ⟨#[111, 114]⟩, ⟨#[110, 111, 116]⟩]
theorem symbols_o : CallO Tryz.prog 193 [] 9 1 (symL.map strC) id := by
  refine CallA.of pg ord193 Tryz.func193 rfl Tryz.ntmps193 Tryz.results193 rfl fun h0 G0 O0 => ?_
  repeat' (first | refine Sp.h ?_ | refine Lk.r rfl ?_ | refine Rf.mk rfl ?_ | (refine All.mk ?_; intro _) | (apply Fk.r; (focus (repeat (first | exact FillA.nil | (apply FillA.agg; (focus rfl); (focus rfl); (focus (repeat (first | exact SetAs.z | (apply SetAs.c; (focus (repeat (first | assumption | exact SetA.z | apply SetA.s)))))))) | (apply FillA.one; (focus rfl); (focus infer_instance); (focus (repeat (first | assumption | exact SetA.z | apply SetA.s)))))))) | (apply Nm.r; (focus repeat (first | apply LN.cons | exact LN.nil))) | refine Rf.mk ⟨rfl, rfl, rfl⟩ ?_ | fail)
  exact ⟨_, _, .one (.same (.nil (by (repeat (first | exact Subl.nil | refine Subl.cons (by (repeat (first | exact Take.here | apply Take.there))) ?_))))), _, rfl, rfl⟩
theorem symbols_p : CallP Tryz.prog 193 [] (.sl 1 symL strC) := CallA.fzm (by decide) (List.map_id _).symm symbols_o
theorem keywords_o : CallO Tryz.prog 190 [] 9 1 (kwL.map strC) id := by
  refine CallA.of pg ord190 Tryz.func190 rfl Tryz.ntmps190 Tryz.results190 rfl fun h0 G0 O0 => ?_
  repeat' (first | refine Sp.h ?_ | refine Lk.r rfl ?_ | refine Rf.mk rfl ?_ | (refine All.mk ?_; intro _) | (apply Fk.r; (focus (repeat (first | exact FillA.nil | (apply FillA.agg; (focus rfl); (focus rfl); (focus (repeat (first | exact SetAs.z | (apply SetAs.c; (focus (repeat (first | assumption | exact SetA.z | apply SetA.s)))))))) | (apply FillA.one; (focus rfl); (focus infer_instance); (focus (repeat (first | assumption | exact SetA.z | apply SetA.s)))))))) | (apply Nm.r; (focus repeat (first | apply LN.cons | exact LN.nil))) | refine Rf.mk ⟨rfl, rfl, rfl⟩ ?_ | fail)
  exact ⟨_, _, .one (.same (.nil (by (repeat (first | exact Subl.nil | refine Subl.cons (by (repeat (first | exact Take.here | apply Take.there))) ?_))))), _, rfl, rfl⟩
theorem keywords_p : CallP Tryz.prog 190 [] (.sl 1 kwL strC) := CallA.fzm (by decide) (List.map_id _).symm keywords_o
/-! ### Symbols -/
def symOK (s : ByteArray) (a : Nat) (q : ByteArray) : Prop := a + q.size ≤ s.size ∧ (s.extract a (a + q.size)).toList = q.toList
noncomputable instance (s : ByteArray) (a : Nat) (q : ByteArray) : Decidable (symOK s a q) := Classical.propDecidable _
noncomputable def symF (L : List ByteArray) (s : ByteArray) (a : Nat) : Nat := ((L.find? fun q => decide (symOK s a q)).map ByteArray.size).getD 0
theorem find_at {α : Type} {p : α → Bool} : ∀ {l : List α} {i : Nat} {x : α}, l[i]? = some x → p x = true → (∀ j y, j < i → l[j]? = some y → p y = false) → l.find? p = some x := by
  intro l
  induction l with
  | nil => intro i x h; cases h
  | cons a l ih =>
    intro i x h1 h2 h3
    cases i with
    | zero => cases h1; simp [h2]
    | succ i =>
      have h4 := h3 0 a (by omega) rfl
      rw [List.find?_cons, h4]
      exact ih h1 h2 fun j y hj hy => h3 (j + 1) y (by omega) hy
theorem symL_size : ∀ q ∈ symL, q.size ≤ 2 := by decide
theorem symF_le {s : ByteArray} {a : Nat} (ha : a ≤ s.size) : a + symF symL s a ≤ s.size := by
  unfold symF
  cases h : symL.find? fun q => decide (symOK s a q) with
  | none => exact ha
  | some q => exact (of_decide_eq_true (p := symOK s a q) (List.find?_some (p := fun q => decide (symOK s a q)) h)).1
theorem symbol_p {s : ByteArray} {a : Nat} (hs : s.size ≤ 1000000000) (ha : a ≤ s.size) : CallP Tryz.prog 191 [sv s, .val (.int .i64 a)] (.val (.int .i64 (symF symL s a))) := by
  obtain ⟨L, hL⟩ : ∃ L, L = symL := ⟨_, rfl⟩
  have hp := symbols_p
  have hsz := symL_size
  rw [← hL] at hp hsz ⊢
  refine CallA.of pg ord191 Tryz.func191 rfl Tryz.ntmps191 Tryz.results191 rfl fun h0 G0 O0 => ?_
  repeat' (first | refine Sp.h ?_ | refine Lk.r rfl ?_ | refine Rf.mk rfl ?_ | fail | (apply Cl.p (hp); (focus repeat' (first | exact Lend.nil | fail))))
  refine CA.loop (fun i : Nat => ⟨[(0, sv s), (1, .val (.int .i64 a)), (5, .sl 1 L strC), (6, .val (.int .i64 i))], []⟩) (fun i => i ≤ L.length ∧ ∀ j q, j < i → L[j]? = some q → ¬ symOK s a q) (fun i => L.length - i) 0 ⟨by (repeat (first | exact trivial | refine ⟨rfl, ?_⟩)), by (repeat (first | exact Subl.nil | refine Subl.cons (by (repeat (first | exact Take.here | apply Take.there))) ?_))⟩ ⟨Nat.zero_le _, fun j q h => by omega⟩ ?_
  rintro i ⟨hi, hj⟩
  by_cases hin : i < L.length
  · obtain ⟨q, hq⟩ := get_of hin
    have hqs := hsz q (List.mem_of_getElem? hq)
    repeat' (first | refine Sp.h ?_ | refine Lk.r rfl ?_ | refine Rf.mk rfl ?_ | (apply Bd.t; (focus (first | assumption | omega | rfl))) | (apply Bd.f; (focus (first | assumption | omega | exact Bool.false_ne_true))) | (refine Bd.mk ?_ ?_ <;> intro _) | refine OpK.r rfl ?_ | (refine Im.mk ?_; intro _) | (apply Ix.q; (focus exact rfl); (focus assumption)) | (apply Nm.r; (focus repeat (first | apply LN.cons | exact LN.nil))) | (apply Jx.r; (focus exact rfl); (focus first | omega | (simp; done) | (simp; omega))) | (apply CA.draw; (focus rfl); (focus kernel_rfl); (focus kernel_rfl); (focus repeat' (first | apply ON.one | exact ON.done | exact ON.none | apply ON.alt)); (focus rfl)) | (apply Ov.n; (focus first | omega | (simp <;> omega))) | fail)
    all_goals first
      | (rename_i h1 h2; exact Fin.p rfl (by rw [symF, find_at hq (decide_eq_true (show symOK s a q from ⟨by omega, h2⟩)) fun j y h8 h9 => decide_eq_false (hj j y h8 h9)]; rfl))
      | skip
    all_goals refine PA.lp (i + 1) ⟨by (repeat (first | exact trivial | refine ⟨rfl, ?_⟩)), by (repeat (first | exact Subl.nil | refine Subl.cons (by (repeat (first | exact Take.here | apply Take.there))) ?_))⟩ ⟨⟨hin, fun j y h8 h9 => ?_⟩, by omega⟩
    all_goals
      by_cases hij : j = i
      · subst hij; rw [hq] at h9; cases h9
        exact fun h7 => by have := h7.1; have := h7.2; first | contradiction | omega
      · exact hj j y (by omega) h9
  · repeat' (first | refine Sp.h ?_ | refine Lk.r rfl ?_ | refine Rf.mk rfl ?_ | (apply Bd.f; (focus (first | assumption | omega | exact Bool.false_ne_true))) | (refine Im.mk ?_; intro _) | (apply Nm.r; (focus repeat (first | apply LN.cons | exact LN.nil))) | fail)
    have hn : L.find? (fun q => decide (symOK s a q)) = none := List.find?_eq_none.2 fun q hq => by
      obtain ⟨j, hq⟩ := List.getElem?_of_mem hq
      have := hj j q (by have := (List.getElem?_eq_some_iff.1 hq).1; omega) hq
      simpa using this
    exact Fin.p rfl (by rw [symF, hn]; rfl)
/-! ### Tokens -/
theorem token_c {s : ByteArray} {a : Nat} (hs : s.size ≤ 1000000000) (ha : a < s.size) (hw : ¬ isWhite (byteAt s a)) (h35 : byteAt s a ≠ 35) :
    CallA Tryz.prog 181 [sv s, .val (.int .i64 a)] [] fun r own => ∃ (k : Int) (b : Nat), r = .tup [.val (.int .i64 k), .val (.int .i64 b)] ∧ own = [] ∧ a < b ∧ b ≤ s.size := by
  refine CallA.of pg ord181 Tryz.func181 rfl Tryz.ntmps181 Tryz.results181 rfl fun h0 G0 O0 => ?_
  by_cases hl : isLetter (byteAt s a)
  · repeat' (first | refine Sp.h ?_ | refine Lk.r rfl ?_ | refine Rf.mk rfl ?_ | (apply Bd.t; (focus (first | assumption | omega | rfl))) | (apply Sx.r; (focus exact rfl); (focus first | omega | (simp; omega))) | fail | (apply Cl.p (letter_p _); (focus repeat' (first | exact Lend.nil | apply Lend.keep | fail))))
    refine CA.loop (fun b : Nat => ⟨[(0, sv s), (1, .val (.int .i64 a)), (6, .val (.int .i64 b))], []⟩) (fun b => a ≤ b ∧ b ≤ s.size) (fun b => s.size - b) a ⟨by (repeat (first | exact trivial | refine ⟨rfl, ?_⟩)), by (repeat (first | exact Subl.nil | refine Subl.cons (by (repeat (first | exact Take.here | apply Take.there))) ?_))⟩ ⟨Nat.le_refl _, by omega⟩ ?_
    rintro b ⟨hb1, hb2⟩
    by_cases hba : b = a
    · subst hba
      repeat' (first | refine Sp.h ?_ | refine Lk.r rfl ?_ | refine Rf.mk rfl ?_ | (apply Bd.t; (focus (first | assumption | omega | rfl))) | (apply Sx.r; (focus exact rfl); (focus first | omega | (simp; omega))) | (apply Ov.n; (focus first | omega | (simp <;> omega))) | fail | (apply Cl.p (letter_p _); (focus repeat' (first | exact Lend.nil | apply Lend.keep | fail))))
      exact PA.lp (b + 1) ⟨by (repeat (first | exact trivial | refine ⟨rfl, ?_⟩)), by (repeat (first | exact Subl.nil | refine Subl.cons (by (repeat (first | exact Take.here | apply Take.there))) ?_))⟩ ⟨⟨by omega, by omega⟩, by omega⟩
    · repeat' (first | refine Sp.h ?_ | refine Lk.r rfl ?_ | refine Rf.mk rfl ?_ | (apply Bd.t; (focus (first | assumption | omega | rfl))) | (apply Bd.f; (focus (first | assumption | omega | exact Bool.false_ne_true))) | (refine Bd.mk ?_ ?_ <;> intro _) | refine OpK.r rfl ?_ | (apply Jx.r; (focus exact rfl); (focus first | omega | (simp; done) | (simp; omega))) | (apply CA.draw; (focus rfl); (focus kernel_rfl); (focus kernel_rfl); (focus repeat' (first | apply ON.one | exact ON.done | exact ON.none | apply ON.alt)); (focus rfl)) | (apply Sx.r; (focus exact rfl); (focus first | omega | (simp; omega))) | (apply Ov.n; (focus first | omega | (simp <;> omega))) | fail | (apply Cl.p (letter_p _); (focus repeat' (first | exact Lend.nil | apply Lend.keep | fail))) | (apply Cl.p (digit_p _); (focus repeat' (first | exact Lend.nil | apply Lend.keep | fail))))
      all_goals try exact PA.lp (b + 1) ⟨by (repeat (first | exact trivial | refine ⟨rfl, ?_⟩)), by (repeat (first | exact Subl.nil | refine Subl.cons (by (repeat (first | exact Take.here | apply Take.there))) ?_))⟩ ⟨⟨by omega, by omega⟩, by omega⟩
      all_goals repeat' (first | refine Sp.h ?_ | refine Lk.r rfl ?_ | refine Rf.mk rfl ?_ | (refine Bd.mk ?_ ?_ <;> intro _) | refine OpK.r rfl ?_ | (apply Nm.r; (focus repeat (first | apply LN.cons | exact LN.nil))) | fail | (apply Cl.p (keywords_p); (focus repeat' (first | exact Lend.nil | apply Lend.keep | fail))) | (apply Cl.p (has_p _ _); (focus repeat' (first | exact Lend.nil | apply Lend.keep | fail))))
      all_goals exact ⟨_, _, .tup (.same (.same (.nil (by (repeat (first | exact Subl.nil | refine Subl.cons (by (repeat (first | exact Take.here | apply Take.there))) ?_)))))), _, b, rfl, rfl, by omega, hb2⟩
  · by_cases hd : isDigit (byteAt s a)
    · repeat' (first | refine Sp.h ?_ | refine Lk.r rfl ?_ | refine Rf.mk rfl ?_ | (apply Bd.t; (focus (first | assumption | omega | rfl))) | (apply Bd.f; (focus (first | assumption | omega | exact Bool.false_ne_true))) | (apply Sx.r; (focus exact rfl); (focus first | omega | (simp; omega))) | fail | (apply Cl.p (letter_p _); (focus repeat' (first | exact Lend.nil | apply Lend.keep | fail))) | (apply Cl.p (digit_p _); (focus repeat' (first | exact Lend.nil | apply Lend.keep | fail))))
      refine CA.loop (fun b : Nat => ⟨[(0, sv s), (1, .val (.int .i64 a)), (6, .val (.int .i64 b))], []⟩) (fun b => a ≤ b ∧ b ≤ s.size) (fun b => s.size - b) a ⟨by (repeat (first | exact trivial | refine ⟨rfl, ?_⟩)), by (repeat (first | exact Subl.nil | refine Subl.cons (by (repeat (first | exact Take.here | apply Take.there))) ?_))⟩ ⟨Nat.le_refl _, by omega⟩ ?_
      rintro b ⟨hb1, hb2⟩
      by_cases hba : b = a
      · subst hba
        repeat' (first | refine Sp.h ?_ | refine Lk.r rfl ?_ | refine Rf.mk rfl ?_ | (apply Bd.t; (focus (first | assumption | omega | rfl))) | (apply Sx.r; (focus exact rfl); (focus first | omega | (simp; omega))) | (apply Ov.n; (focus first | omega | (simp <;> omega))) | fail | (apply Cl.p (digit_p _); (focus repeat' (first | exact Lend.nil | apply Lend.keep | fail))))
        exact PA.lp (b + 1) ⟨by (repeat (first | exact trivial | refine ⟨rfl, ?_⟩)), by (repeat (first | exact Subl.nil | refine Subl.cons (by (repeat (first | exact Take.here | apply Take.there))) ?_))⟩ ⟨⟨by omega, by omega⟩, by omega⟩
      · repeat' (first | refine Sp.h ?_ | refine Lk.r rfl ?_ | refine Rf.mk rfl ?_ | (apply Bd.t; (focus (first | assumption | omega | rfl))) | (apply Bd.f; (focus (first | assumption | omega | exact Bool.false_ne_true))) | (refine Bd.mk ?_ ?_ <;> intro _) | (apply Nm.r; (focus repeat (first | apply LN.cons | exact LN.nil))) | (apply Sx.r; (focus exact rfl); (focus first | omega | (simp; omega))) | (apply Ov.n; (focus first | omega | (simp <;> omega))) | fail | (apply Cl.p (digit_p _); (focus repeat' (first | exact Lend.nil | apply Lend.keep | fail))))
        all_goals first
          | exact PA.lp (b + 1) ⟨by (repeat (first | exact trivial | refine ⟨rfl, ?_⟩)), by (repeat (first | exact Subl.nil | refine Subl.cons (by (repeat (first | exact Take.here | apply Take.there))) ?_))⟩ ⟨⟨by omega, by omega⟩, by omega⟩
          | exact ⟨_, _, .tup (.same (.same (.nil (by (repeat (first | exact Subl.nil | refine Subl.cons (by (repeat (first | exact Take.here | apply Take.there))) ?_)))))), _, b, rfl, rfl, by omega, hb2⟩
    · have hsy := symF_le (s := s) (a := a) (by omega)
      have hsp := symbol_p hs (Nat.le_of_lt ha)
      repeat' (first | refine Sp.h ?_ | refine Lk.r rfl ?_ | refine Rf.mk rfl ?_ | (apply Bd.f; (focus (first | assumption | omega | exact Bool.false_ne_true))) | (apply Sx.r; (focus exact rfl); (focus first | omega | (simp; omega))) | fail | (apply Cl.p (letter_p _); (focus repeat' (first | exact Lend.nil | apply Lend.keep | fail))) | (apply Cl.p (digit_p _); (focus repeat' (first | exact Lend.nil | apply Lend.keep | fail))))
      by_cases hp : 0 < symF symL s a
      · repeat' (first | refine Sp.h ?_ | refine Lk.r rfl ?_ | refine Rf.mk rfl ?_ | (apply Bd.t; (focus (first | assumption | omega | rfl))) | (apply Nm.r; (focus repeat (first | apply LN.cons | exact LN.nil))) | (apply Ov.n; (focus first | omega | (simp <;> omega))) | fail | (apply Cl.p (hsp); (focus repeat' (first | exact Lend.nil | apply Lend.keep | fail))))
        exact ⟨_, _, .tup (.same (.same (.nil (by (repeat (first | exact Subl.nil | refine Subl.cons (by (repeat (first | exact Take.here | apply Take.there))) ?_)))))), _, a + symF symL s a, rfl, rfl, by omega, hsy⟩
      · repeat' (first | refine Sp.h ?_ | refine Lk.r rfl ?_ | refine Rf.mk rfl ?_ | (apply Bd.f; (focus (first | assumption | omega | exact Bool.false_ne_true))) | fail | (apply Cl.p (hsp); (focus repeat' (first | exact Lend.nil | apply Lend.keep | fail))))
        refine CA.loop (fun b : Nat => ⟨[(0, sv s), (1, .val (.int .i64 a)), (6, .val (.int .i64 b))], []⟩) (fun b => a ≤ b ∧ b ≤ s.size) (fun b => s.size - b) a ⟨by (repeat (first | exact trivial | refine ⟨rfl, ?_⟩)), by (repeat (first | exact Subl.nil | refine Subl.cons (by (repeat (first | exact Take.here | apply Take.there))) ?_))⟩ ⟨Nat.le_refl _, by omega⟩ ?_
        rintro b ⟨hb1, hb2⟩
        by_cases hba : b = a
        · subst hba
          repeat' (first | refine Sp.h ?_ | refine Lk.r rfl ?_ | refine Rf.mk rfl ?_ | (apply Bd.t; (focus (first | assumption | omega | rfl))) | (apply Bd.f; (focus (first | assumption | omega | exact Bool.false_ne_true))) | (apply Sx.r; (focus exact rfl); (focus first | omega | (simp; omega))) | fail | (apply Cl.p (white_p _); (focus repeat' (first | exact Lend.nil | apply Lend.keep | fail))) | (apply Cl.p (letter_p _); (focus repeat' (first | exact Lend.nil | apply Lend.keep | fail))))
          repeat' (first | refine Sp.h ?_ | refine Lk.r rfl ?_ | refine Rf.mk rfl ?_ | (apply Bd.t; (focus (first | assumption | omega | rfl))) | (apply Bd.f; (focus (first | assumption | omega | exact Bool.false_ne_true))) | (apply Ov.n; (focus first | omega | (simp <;> omega))) | fail | (apply Cl.p (digit_p _); (focus repeat' (first | exact Lend.nil | apply Lend.keep | fail))) | (apply Cl.p (hsp); (focus repeat' (first | exact Lend.nil | apply Lend.keep | fail))))
          exact PA.lp (b + 1) ⟨by (repeat (first | exact trivial | refine ⟨rfl, ?_⟩)), by (repeat (first | exact Subl.nil | refine Subl.cons (by (repeat (first | exact Take.here | apply Take.there))) ?_))⟩ ⟨⟨by omega, by omega⟩, by omega⟩
        · have hsb := symbol_p hs hb2
          repeat' (first | refine Sp.h ?_ | refine Lk.r rfl ?_ | refine Rf.mk rfl ?_ | (apply Bd.t; (focus (first | assumption | omega | rfl))) | (apply Bd.f; (focus (first | assumption | omega | exact Bool.false_ne_true))) | (refine Bd.mk ?_ ?_ <;> intro _) | (apply Nm.r; (focus repeat (first | apply LN.cons | exact LN.nil))) | (apply Sx.r; (focus exact rfl); (focus first | omega | (simp; omega))) | fail | (apply Cl.p (white_p _); (focus repeat' (first | exact Lend.nil | apply Lend.keep | fail))) | (apply Cl.p (letter_p _); (focus repeat' (first | exact Lend.nil | apply Lend.keep | fail))))
          all_goals repeat' (first | refine Sp.h ?_ | refine Lk.r rfl ?_ | refine Rf.mk rfl ?_ | (apply Bd.t; (focus (first | assumption | omega | rfl))) | (apply Bd.f; (focus (first | assumption | omega | exact Bool.false_ne_true))) | (refine Bd.mk ?_ ?_ <;> intro _) | (apply Nm.r; (focus repeat (first | apply LN.cons | exact LN.nil))) | (apply Ov.n; (focus first | omega | (simp <;> omega))) | fail | (apply Cl.p (digit_p _); (focus repeat' (first | exact Lend.nil | apply Lend.keep | fail))) | (apply Cl.p (hsb); (focus repeat' (first | exact Lend.nil | apply Lend.keep | fail))))
          all_goals first
            | exact PA.lp (b + 1) ⟨by (repeat (first | exact trivial | refine ⟨rfl, ?_⟩)), by (repeat (first | exact Subl.nil | refine Subl.cons (by (repeat (first | exact Take.here | apply Take.there))) ?_))⟩ ⟨⟨by omega, by omega⟩, by omega⟩
            | exact ⟨_, _, .tup (.same (.same (.nil (by (repeat (first | exact Subl.nil | refine Subl.cons (by (repeat (first | exact Take.here | apply Take.there))) ?_)))))), _, b, rfl, rfl, by omega, hb2⟩
/-! ### Scanning -/
abbrev TokT := Int × Int × Int × Int
def tokC (x : TokT) : List AV := [.val (.int .i64 x.1), .val (.int .i64 x.2.1), .val (.int .i64 x.2.2.1), .val (.int .i64 x.2.2.2)]
instance {a b c d : Int} : Inv tokC [.val (.int .i64 a), .val (.int .i64 b), .val (.int .i64 c), .val (.int .i64 d)] (a, b, c, d) := ⟨rfl⟩
theorem scan_c (s : ByteArray) : CallA Tryz.prog 163 [sv s] [] fun r own => ∃ (l : List TokT) (e : Int), r = .tup [.sl 4 l tokC, .val (.int .i64 e)] ∧ own = [] := by
  refine CallA.of pg ord163 Tryz.func163 rfl Tryz.ntmps163 Tryz.results163 rfl fun h0 G0 O0 => ?_
  repeat' (first | refine Sp.h ?_ | refine Lk.r rfl ?_ | refine Rf.mk rfl ?_ | (refine Bd.mk ?_ ?_ <;> intro _) | (refine All.mk ?_; intro _) | (apply Fk.r; (focus (repeat (first | exact FillA.nil | (apply FillA.agg; (focus rfl); (focus rfl); (focus (repeat (first | exact SetAs.z | (apply SetAs.c; (focus (repeat (first | assumption | exact SetA.z | apply SetA.s)))))))) | (apply FillA.one; (focus rfl); (focus infer_instance); (focus (repeat (first | assumption | exact SetA.z | apply SetA.s)))))))) | (apply Nm.r; (focus repeat (first | apply LN.cons | exact LN.nil))) | refine Rf.mk ⟨rfl, rfl, rfl⟩ ?_ | fail)
  · exact ⟨_, _, .tup (.nilr (.same (.nil (by (repeat (first | exact Subl.nil | refine Subl.cons (by (repeat (first | exact Take.here | apply Take.there))) ?_)))))), [], _, rfl, rfl⟩
  rename_i hsz v
  have hs : s.size ≤ 1000000000 := by omega
  apply CA.retype (m := ([] : List TokT)) (g := tokC)
  focus (repeat (first | exact Take.here | apply Take.there))
  focus rfl
  refine CA.loop (fun x : Nat × Value × List TokT => ⟨[(0, sv s), (5, .val (.int .i64 x.1)), (4, .ow x.2.1)], [arrR x.2.1 227 4 x.2.2 tokC]⟩) (fun x => x.1 ≤ s.size ∧ x.2.2.length ≤ x.1) (fun x => s.size - x.1) (0, v, []) ⟨by (repeat (first | exact trivial | refine ⟨rfl, ?_⟩)), by (repeat (first | exact Subl.nil | refine Subl.cons (by (repeat (first | exact Take.here | apply Take.there))) ?_))⟩ ⟨Nat.zero_le _, Nat.le_refl _⟩ ?_
  rintro ⟨a, v, l⟩ ⟨ha, hl⟩
  simp only at ha hl
  obtain ⟨j, hj⟩ := Skip.ex s _ a rfl
  obtain ⟨hj1, hj2, hj3⟩ := hj.le ha
  have hsk := skip_p hs ha hj
  by_cases hjl : j < s.size
  · obtain ⟨hj4, hj5⟩ := hj3 hjl
    have htk := token_c hs hjl hj4 hj5
    repeat' (first | refine Sp.h ?_ | refine Lk.r rfl ?_ | refine Rf.mk rfl ?_ | (apply Bd.t; (focus (first | assumption | omega | rfl))) | fail | (apply Cl.p (hsk); (focus repeat' (first | exact Lend.nil | apply Lend.keep | fail))))
    (apply Cl.use (htk); (focus repeat' (first | exact Lend.nil | apply Lend.keep | fail)); (focus (repeat (first | exact Takes.nil | (apply Takes.cons; (focus (repeat (first | exact Take.here | apply Take.there))))))); (focus rfl))
    rintro _ _ ⟨k, b, rfl, rfl, hb1, hb2⟩
    repeat' (first | refine Sp.h ?_ | refine Lk.r rfl ?_ | refine Rf.mk rfl ?_ | (apply Om.mk; (focus first | omega | (simp <;> omega))) | (refine All.mk ?_; intro _) | (apply TkA.r; (focus (repeat (first | exact Take.here | apply Take.there)))) | refine Ce.r ?_ | (apply Fk.r; (focus (repeat (first | exact FillA.nil | (apply FillA.agg; (focus rfl); (focus rfl); (focus (repeat (first | exact SetAs.z | (apply SetAs.c; (focus (repeat (first | assumption | exact SetA.z | apply SetA.s)))))))) | (apply FillA.one; (focus rfl); (focus infer_instance); (focus (repeat (first | assumption | exact SetA.z | apply SetA.s)))))))) | refine Rf.mk ⟨rfl, rfl⟩ ?_ | refine Rf.mk ⟨rfl, rfl, rfl⟩ ?_ | (apply Mp.lit; (focus repeat (first | exact MpL.nil | (apply MpL.cons; (focus rfl)) | (apply MpL.inv; (focus repeat (first | apply LN.cons | exact LN.nil)); (focus infer_instance))))) | fail)
    exact PA.lp (b, _, l ++ [(k, (a : Int), (j : Int), (b : Int))]) ⟨by (repeat (first | exact trivial | refine ⟨rfl, ?_⟩)), by (repeat (first | exact Subl.nil | refine Subl.cons (by (repeat (first | exact Take.here | apply Take.there))) ?_))⟩ ⟨⟨hb2, by simp only [List.length_append, List.length_singleton]; omega⟩, by simp only; omega⟩
  · repeat' (first | refine Sp.h ?_ | refine Lk.r rfl ?_ | refine Rf.mk rfl ?_ | (apply Bd.f; (focus (first | assumption | omega | exact Bool.false_ne_true))) | (apply Om.mk; (focus first | omega | (simp <;> omega))) | (refine All.mk ?_; intro _) | (apply TkA.r; (focus (repeat (first | exact Take.here | apply Take.there)))) | refine Ce.r ?_ | (apply Fk.r; (focus (repeat (first | exact FillA.nil | (apply FillA.agg; (focus rfl); (focus rfl); (focus (repeat (first | exact SetAs.z | (apply SetAs.c; (focus (repeat (first | assumption | exact SetA.z | apply SetA.s)))))))) | (apply FillA.one; (focus rfl); (focus infer_instance); (focus (repeat (first | assumption | exact SetA.z | apply SetA.s)))))))) | (apply Nm.r; (focus repeat (first | apply LN.cons | exact LN.nil))) | refine Rf.mk ⟨rfl, rfl⟩ ?_ | refine Rf.mk ⟨rfl, rfl, rfl⟩ ?_ | (apply Mp.lit; (focus repeat (first | exact MpL.nil | (apply MpL.cons; (focus rfl)) | (apply MpL.inv; (focus repeat (first | apply LN.cons | exact LN.nil)); (focus infer_instance))))) | fail | (apply Cl.p (hsk); (focus repeat' (first | exact Lend.nil | apply Lend.keep | fail))))
    exact ⟨_, _, .tup (.fz (by (repeat (first | exact Take.here | apply Take.there))) (by simp only [List.length_append, List.length_singleton]; omega) (.same (.nil (by (repeat (first | exact Subl.nil | refine Subl.cons (by (repeat (first | exact Take.here | apply Take.there))) ?_)))))), _, _, rfl, rfl⟩
theorem kind_c (s : ByteArray) : CallA Tryz.prog 136 [sv s] [] fun r own => ∃ k : Int, r = .val (.int .i64 k) ∧ own = [] := by
  refine CallA.of pg ord136 Tryz.func136 rfl Tryz.ntmps136 Tryz.results136 rfl fun h0 G0 O0 => ?_
  repeat' (first | refine Sp.h ?_ | refine Lk.r rfl ?_ | refine Rf.mk rfl ?_ | fail)
  (apply Cl.use (scan_c s); (focus repeat' (first | exact Lend.nil | apply Lend.keep | fail)); (focus (repeat (first | exact Takes.nil | (apply Takes.cons; (focus (repeat (first | exact Take.here | apply Take.there))))))); (focus rfl))
  rintro _ _ ⟨l, e, rfl, rfl⟩
  by_cases hl : l.length = 2
  · obtain ⟨x, hx⟩ := get_of (l := l) (i := 0) (by omega)
    repeat' (first | refine Sp.h ?_ | refine Lk.r rfl ?_ | refine Rf.mk rfl ?_ | (apply Bd.t; (focus (first | assumption | omega | rfl))) | (apply Bd.f; (focus (first | assumption | omega | exact Bool.false_ne_true))) | (refine Bd.mk ?_ ?_ <;> intro _) | (refine Im.mk ?_; intro _) | (apply Ix.q; (focus exact rfl); (focus assumption)) | (apply Nm.r; (focus repeat (first | apply LN.cons | exact LN.nil))) | fail)
    all_goals exact ⟨_, _, .one (.same (.nil (by (repeat (first | exact Subl.nil | refine Subl.cons (by (repeat (first | exact Take.here | apply Take.there))) ?_))))), _, rfl, rfl⟩
  · repeat' (first | refine Sp.h ?_ | refine Lk.r rfl ?_ | refine Rf.mk rfl ?_ | (apply Bd.t; (focus (first | assumption | omega | rfl))) | (apply Bd.f; (focus (first | assumption | omega | exact Bool.false_ne_true))) | (refine Bd.mk ?_ ?_ <;> intro _) | (refine Im.mk ?_; intro _) | (apply Nm.r; (focus repeat (first | apply LN.cons | exact LN.nil))) | fail)
    all_goals exact ⟨_, _, .one (.same (.nil (by (repeat (first | exact Subl.nil | refine Subl.cons (by (repeat (first | exact Take.here | apply Take.there))) ?_))))), _, rfl, rfl⟩
/-- A function without effects that returns a bool. -/
abbrev CallB (P : Program) (f : FuncId) (args : List AV) : Prop := CallA P f args [] fun r own => ∃ b, r = .val (.bool b) ∧ own = []
theorem name_c (s : ByteArray) : CallB Tryz.prog 109 [sv s] := by
  refine CallA.of pg ord109 Tryz.func109 rfl Tryz.ntmps109 Tryz.results109 rfl fun h0 G0 O0 => ?_
  repeat' (first | refine Sp.h ?_ | refine Lk.r rfl ?_ | refine Rf.mk rfl ?_ | fail)
  (apply Cl.use (kind_c s); (focus repeat' (first | exact Lend.nil | apply Lend.keep | fail)); (focus (repeat (first | exact Takes.nil | (apply Takes.cons; (focus (repeat (first | exact Take.here | apply Take.there))))))); (focus rfl))
  rintro _ _ ⟨k, rfl, rfl⟩
  repeat' (first | refine Sp.h ?_ | refine Lk.r rfl ?_ | refine Rf.mk rfl ?_ | (apply Bd.t; (focus (first | assumption | omega | rfl))) | (apply Bd.f; (focus (first | assumption | omega | exact Bool.false_ne_true))) | (refine Bd.mk ?_ ?_ <;> intro _) | (apply Nm.r; (focus repeat (first | apply LN.cons | exact LN.nil))) | fail)
  all_goals exact ⟨_, _, .one (.same (.nil (by (repeat (first | exact Subl.nil | refine Subl.cons (by (repeat (first | exact Take.here | apply Take.there))) ?_))))), _, rfl, rfl⟩
end Go.Proofs.YtpgpdmmobblffaaGreat
