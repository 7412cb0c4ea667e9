/- By program (genpg.py): the table of the types that the walks use, the functions that can be entered, and the orders in which drawn regions are walked. -/
import Derived.Test.YtkcbaalbgobndaaEngE
import Derived.Test.YtkcbaalbgobndaaProg
import Derived.KernelRfl
namespace Go.Proofs.Ytkcbaalbgobndaa
open Go Go.CF
def ti3 : TI := ⟨.int .i64, 1, 8, .int .i64 0⟩ -- int
theorem tok3 : TOK Try.prog 3 ti3 := TOK.mk' (by kernel_rfl) (by kernel_rfl)
def ti4 : TI := ⟨.bool, 1, 1, .bool false⟩ -- bool
theorem tok4 : TOK Try.prog 4 ti4 := TOK.mk' (by kernel_rfl) (by kernel_rfl)
def ti5 : TI := ⟨.int .u8, 1, 1, .int .u8 0⟩ -- uint8
theorem tok5 : TOK Try.prog 5 ti5 := TOK.mk' (by kernel_rfl) (by kernel_rfl)
def ti9 : TI := ⟨.str, 1, 16, .string ⟨#[]⟩⟩ -- string
theorem tok9 : TOK Try.prog 9 ti9 := TOK.mk' (by kernel_rfl) (by kernel_rfl)
def ti22 : TI := ⟨.slice 42, 1, 24, .slice none 0 0⟩ -- []api.Event
theorem tok22 : TOK Try.prog 22 ti22 := TOK.mk' (by kernel_rfl) (by kernel_rfl)
def ti23 : TI := ⟨.slice 3, 1, 24, .slice none 0 0⟩ -- []int
theorem tok23 : TOK Try.prog 23 ti23 := TOK.mk' (by kernel_rfl) (by kernel_rfl)
def ti26 : TI := ⟨.slice 68, 1, 24, .slice none 0 0⟩ -- []api.Table
theorem tok26 : TOK Try.prog 26 ti26 := TOK.mk' (by kernel_rfl) (by kernel_rfl)
def ti27 : TI := ⟨.slice 9, 1, 24, .slice none 0 0⟩ -- []string
theorem tok27 : TOK Try.prog 27 ti27 := TOK.mk' (by kernel_rfl) (by kernel_rfl)
def ti28 : TI := ⟨.slice 124, 1, 24, .slice none 0 0⟩ -- []api.Constraint
theorem tok28 : TOK Try.prog 28 ti28 := TOK.mk' (by kernel_rfl) (by kernel_rfl)
def ti29 : TI := ⟨.slice 128, 1, 24, .slice none 0 0⟩ -- []api.Operation
theorem tok29 : TOK Try.prog 29 ti29 := TOK.mk' (by kernel_rfl) (by kernel_rfl)
def ti30 : TI := ⟨.slice 77, 1, 24, .slice none 0 0⟩ -- []api.Action
theorem tok30 : TOK Try.prog 30 ti30 := TOK.mk' (by kernel_rfl) (by kernel_rfl)
def ti31 : TI := ⟨.slice 132, 1, 24, .slice none 0 0⟩ -- []api.Hide
theorem tok31 : TOK Try.prog 31 ti31 := TOK.mk' (by kernel_rfl) (by kernel_rfl)
def ti33 : TI := ⟨.struct [(0, 23, 1), (1, 26, 1), (2, 27, 1), (3, 28, 1), (4, 29, 1), (5, 30, 1), (6, 31, 1)], 7, 168, .agg #[.slice none 0 0, .slice none 0 0, .slice none 0 0, .slice none 0 0, .slice none 0 0, .slice none 0 0, .slice none 0 0]⟩ -- api.Model
theorem tok33 : TOK Try.prog 33 ti33 := TOK.mk' (by kernel_rfl) (by kernel_rfl)
def ti38 : TI := ⟨.struct [(0, 3, 1), (1, 3, 1), (2, 3, 1)], 3, 24, .agg #[.int .i64 0, .int .i64 0, .int .i64 0]⟩ -- api.Right
theorem tok38 : TOK Try.prog 38 ti38 := TOK.mk' (by kernel_rfl) (by kernel_rfl)
def ti40 : TI := ⟨.struct [(0, 38, 3), (3, 3, 1)], 4, 32, .agg #[.int .i64 0, .int .i64 0, .int .i64 0, .int .i64 0]⟩ -- api.Need
theorem tok40 : TOK Try.prog 40 ti40 := TOK.mk' (by kernel_rfl) (by kernel_rfl)
def ti42 : TI := ⟨.struct [(0, 3, 1), (1, 3, 1), (2, 3, 1), (3, 23, 1), (4, 3, 1), (5, 3, 1), (6, 40, 4), (10, 3, 1), (11, 3, 1), (12, 3, 1)], 13, 120, .agg #[.int .i64 0, .int .i64 0, .int .i64 0, .slice none 0 0, .int .i64 0, .int .i64 0, .int .i64 0, .int .i64 0, .int .i64 0, .int .i64 0, .int .i64 0, .int .i64 0, .int .i64 0]⟩ -- api.Event
theorem tok42 : TOK Try.prog 42 ti42 := TOK.mk' (by kernel_rfl) (by kernel_rfl)
def ti43 : TI := ⟨.int .i64, 1, 8, .int .i64 0⟩ -- api.Errno
theorem tok43 : TOK Try.prog 43 ti43 := TOK.mk' (by kernel_rfl) (by kernel_rfl)
def ti50 : TI := ⟨.ptr 93, 1, 8, .pointer none⟩ -- *stability.Known
theorem tok50 : TOK Try.prog 50 ti50 := TOK.mk' (by kernel_rfl) (by kernel_rfl)
def ti57 : TI := ⟨.struct [(0, 3, 1), (1, 3, 1)], 2, 16, .agg #[.int .i64 0, .int .i64 0]⟩ -- api.Dot
theorem tok57 : TOK Try.prog 57 ti57 := TOK.mk' (by kernel_rfl) (by kernel_rfl)
def ti59 : TI := ⟨.slice 23, 1, 24, .slice none 0 0⟩ -- [][]int
theorem tok59 : TOK Try.prog 59 ti59 := TOK.mk' (by kernel_rfl) (by kernel_rfl)
def ti66 : TI := ⟨.struct [(0, 3, 1), (1, 3, 1)], 2, 16, .agg #[.int .i64 0, .int .i64 0]⟩ -- api.Range
theorem tok66 : TOK Try.prog 66 ti66 := TOK.mk' (by kernel_rfl) (by kernel_rfl)
def ti68 : TI := ⟨.struct [(0, 9, 1), (1, 3, 1), (2, 23, 1), (3, 66, 2), (5, 3, 1)], 6, 72, .agg #[.string ⟨#[]⟩, .int .i64 0, .slice none 0 0, .int .i64 0, .int .i64 0, .int .i64 0]⟩ -- api.Table
theorem tok68 : TOK Try.prog 68 ti68 := TOK.mk' (by kernel_rfl) (by kernel_rfl)
def ti71 : TI := ⟨.slice 79, 1, 24, .slice none 0 0⟩ -- []api.Change
theorem tok71 : TOK Try.prog 71 ti71 := TOK.mk' (by kernel_rfl) (by kernel_rfl)
def ti72 : TI := ⟨.slice 121, 1, 24, .slice none 0 0⟩ -- []api.Row
theorem tok72 : TOK Try.prog 72 ti72 := TOK.mk' (by kernel_rfl) (by kernel_rfl)
def ti73 : TI := ⟨.slice 81, 1, 24, .slice none 0 0⟩ -- []api.Update
theorem tok73 : TOK Try.prog 73 ti73 := TOK.mk' (by kernel_rfl) (by kernel_rfl)
def ti75 : TI := ⟨.struct [(0, 71, 1), (1, 72, 1), (2, 73, 1)], 3, 72, .agg #[.slice none 0 0, .slice none 0 0, .slice none 0 0]⟩ -- api.Effect
theorem tok75 : TOK Try.prog 75 ti75 := TOK.mk' (by kernel_rfl) (by kernel_rfl)
def ti77 : TI := ⟨.struct [(0, 3, 1), (1, 23, 1), (2, 75, 3)], 5, 104, .agg #[.int .i64 0, .slice none 0 0, .slice none 0 0, .slice none 0 0, .slice none 0 0]⟩ -- api.Action
theorem tok77 : TOK Try.prog 77 ti77 := TOK.mk' (by kernel_rfl) (by kernel_rfl)
def ti79 : TI := ⟨.struct [(0, 3, 1), (1, 3, 1)], 2, 16, .agg #[.int .i64 0, .int .i64 0]⟩ -- api.Change
theorem tok79 : TOK Try.prog 79 ti79 := TOK.mk' (by kernel_rfl) (by kernel_rfl)
def ti81 : TI := ⟨.struct [(0, 3, 1), (1, 3, 1), (2, 3, 1)], 3, 24, .agg #[.int .i64 0, .int .i64 0, .int .i64 0]⟩ -- api.Update
theorem tok81 : TOK Try.prog 81 ti81 := TOK.mk' (by kernel_rfl) (by kernel_rfl)
def ti83 : TI := ⟨.func, 1, 8, .nilFunc⟩ -- func(api.Event) bool
theorem tok83 : TOK Try.prog 83 ti83 := TOK.mk' (by kernel_rfl) (by kernel_rfl)
def ti84 : TI := ⟨.slice 109, 1, 24, .slice none 0 0⟩ -- []api.Span
theorem tok84 : TOK Try.prog 84 ti84 := TOK.mk' (by kernel_rfl) (by kernel_rfl)
def ti87 : TI := ⟨.map 57 42, 1, 8, .map none⟩ -- map[api.Dot]api.Event
theorem tok87 : TOK Try.prog 87 ti87 := TOK.mk' (by kernel_rfl) (by kernel_rfl)
def ti90 : TI := ⟨.func, 1, 8, .nilFunc⟩ -- func(int, int) int
theorem tok90 : TOK Try.prog 90 ti90 := TOK.mk' (by kernel_rfl) (by kernel_rfl)
def ti91 : TI := ⟨.array 5 23, 5, 120, .agg #[.slice none 0 0, .slice none 0 0, .slice none 0 0, .slice none 0 0, .slice none 0 0]⟩ -- [5][]int
theorem tok91 : TOK Try.prog 91 ti91 := TOK.mk' (by kernel_rfl) (by kernel_rfl)
def ti93 : TI := ⟨.struct [(0, 3, 1), (1, 91, 5)], 6, 128, .agg #[.int .i64 0, .slice none 0 0, .slice none 0 0, .slice none 0 0, .slice none 0 0, .slice none 0 0]⟩ -- stability.Known
theorem tok93 : TOK Try.prog 93 ti93 := TOK.mk' (by kernel_rfl) (by kernel_rfl)
def ti101 : TI := ⟨.func, 1, 8, .nilFunc⟩ -- func(*api.Event) bool
theorem tok101 : TOK Try.prog 101 ti101 := TOK.mk' (by kernel_rfl) (by kernel_rfl)
def ti103 : TI := ⟨.map 3 101, 1, 8, .map none⟩ -- map[int]func(*api.Event) bool
theorem tok103 : TOK Try.prog 103 ti103 := TOK.mk' (by kernel_rfl) (by kernel_rfl)
def ti105 : TI := ⟨.ptr 42, 1, 8, .pointer none⟩ -- *api.Event
theorem tok105 : TOK Try.prog 105 ti105 := TOK.mk' (by kernel_rfl) (by kernel_rfl)
def ti109 : TI := ⟨.struct [(0, 3, 1), (1, 3, 1), (2, 3, 1)], 3, 24, .agg #[.int .i64 0, .int .i64 0, .int .i64 0]⟩ -- api.Span
theorem tok109 : TOK Try.prog 109 ti109 := TOK.mk' (by kernel_rfl) (by kernel_rfl)
def ti115 : TI := ⟨.slice 66, 1, 24, .slice none 0 0⟩ -- []api.Range
theorem tok115 : TOK Try.prog 115 ti115 := TOK.mk' (by kernel_rfl) (by kernel_rfl)
def ti118 : TI := ⟨.struct [(0, 3, 1), (1, 3, 1)], 2, 16, .agg #[.int .i64 0, .int .i64 0]⟩ -- api.Term
theorem tok118 : TOK Try.prog 118 ti118 := TOK.mk' (by kernel_rfl) (by kernel_rfl)
def ti119 : TI := ⟨.slice 118, 1, 24, .slice none 0 0⟩ -- []api.Term
theorem tok119 : TOK Try.prog 119 ti119 := TOK.mk' (by kernel_rfl) (by kernel_rfl)
def ti121 : TI := ⟨.struct [(0, 119, 1), (1, 3, 1)], 2, 32, .agg #[.slice none 0 0, .int .i64 0]⟩ -- api.Row
theorem tok121 : TOK Try.prog 121 ti121 := TOK.mk' (by kernel_rfl) (by kernel_rfl)
def ti124 : TI := ⟨.struct [(0, 3, 1), (1, 3, 1), (2, 121, 2), (4, 3, 1), (5, 3, 1)], 6, 64, .agg #[.int .i64 0, .int .i64 0, .slice none 0 0, .int .i64 0, .int .i64 0, .int .i64 0]⟩ -- api.Constraint
theorem tok124 : TOK Try.prog 124 ti124 := TOK.mk' (by kernel_rfl) (by kernel_rfl)
def ti128 : TI := ⟨.struct [(0, 9, 1), (1, 4, 1), (2, 23, 1)], 3, 48, .agg #[.string ⟨#[]⟩, .bool false, .slice none 0 0]⟩ -- api.Operation
theorem tok128 : TOK Try.prog 128 ti128 := TOK.mk' (by kernel_rfl) (by kernel_rfl)
def ti132 : TI := ⟨.struct [(0, 3, 1), (1, 3, 1), (2, 3, 1)], 3, 24, .agg #[.int .i64 0, .int .i64 0, .int .i64 0]⟩ -- api.Hide
theorem tok132 : TOK Try.prog 132 ti132 := TOK.mk' (by kernel_rfl) (by kernel_rfl)
def ti139 : TI := ⟨.slice 143, 1, 24, .slice none 0 0⟩ -- []api.Token
theorem tok139 : TOK Try.prog 139 ti139 := TOK.mk' (by kernel_rfl) (by kernel_rfl)
def ti143 : TI := ⟨.struct [(0, 3, 1), (1, 3, 1), (2, 3, 1), (3, 3, 1)], 4, 32, .agg #[.int .i64 0, .int .i64 0, .int .i64 0, .int .i64 0]⟩ -- api.Token
theorem tok143 : TOK Try.prog 143 ti143 := TOK.mk' (by kernel_rfl) (by kernel_rfl)
def tyTab : List (Nat × TI) := [(3, ti3), (4, ti4), (5, ti5), (9, ti9), (22, ti22), (23, ti23), (26, ti26), (27, ti27), (28, ti28), (29, ti29), (30, ti30), (31, ti31), (33, ti33), (38, ti38), (40, ti40), (42, ti42), (43, ti43), (50, ti50), (57, ti57), (59, ti59), (66, ti66), (68, ti68), (71, ti71), (72, ti72), (73, ti73), (75, ti75), (77, ti77), (79, ti79), (81, ti81), (83, ti83), (84, ti84), (87, ti87), (90, ti90), (91, ti91), (93, ti93), (101, ti101), (103, ti103), (105, ti105), (109, ti109), (115, ti115), (118, ti118), (119, ti119), (121, ti121), (124, ti124), (128, ti128), (132, ti132), (139, ti139), (143, ti143)]
theorem tyTab_ok : ∀ p ∈ tyTab, TOK Try.prog p.1 p.2 := by
  unfold tyTab
  repeat (first | exact List.forall_mem_nil _ | refine List.forall_mem_cons.2 ⟨by first | exact tok3 | exact tok4 | exact tok5 | exact tok9 | exact tok22 | exact tok23 | exact tok26 | exact tok27 | exact tok28 | exact tok29 | exact tok30 | exact tok31 | exact tok33 | exact tok38 | exact tok40 | exact tok42 | exact tok43 | exact tok50 | exact tok57 | exact tok59 | exact tok66 | exact tok68 | exact tok71 | exact tok72 | exact tok73 | exact tok75 | exact tok77 | exact tok79 | exact tok81 | exact tok83 | exact tok84 | exact tok87 | exact tok90 | exact tok91 | exact tok93 | exact tok101 | exact tok103 | exact tok105 | exact tok109 | exact tok115 | exact tok118 | exact tok119 | exact tok121 | exact tok124 | exact tok128 | exact tok132 | exact tok139 | exact tok143, ?_⟩)
def tt : Nat → Option TI := lookT tyTab
def en : Nat → Bool := fun f => Nat.ble 3 f && Nat.ble f 90
theorem pg : PgOK Try.prog tt en :=
  ⟨lookT_ok tyTab_ok, fun f h => entB_ok (by
    have k := List.all_eq_true.1 (show (List.range 91).all (fun f => !(Nat.ble 3 f && Nat.ble f 90) || entB Try.prog f) = true by kernel_rfl) f (List.mem_range.2 (by simp [en] at h; omega))
    have h2 : (Nat.ble 3 f && Nat.ble f 90) = true := h
    rw [h2] at k; simpa using k), by kernel_rfl⟩
abbrev ordZ : Nat → Ord × (Nat → Cls) := fun _ => (.done, clOf [])
abbrev ord3 := ordZ
def ord4 : Nat → Ord × (Nat → Cls) := fun id => bif Nat.beq id 33 then (.one 0 (.one 1 (.one 2 (.one 3 (.one 4 (.one 5 (.one 6 (.one 7 (.one 8 (.one 9 (.one 10 .done)))))))))), clOf [.pure, .pure, .pure, .pure, .pure, .read, .pure, .read, .pure, .pure, .loud]) else (.done, clOf [])
abbrev ord5 := ordZ
def ord6 : Nat → Ord × (Nat → Cls) := fun id => bif Nat.beq id 11 then (.one 0 (.one 1 (.one 2 (.one 3 (.one 4 (.one 5 (.one 6 (.one 7 (.one 8 (.one 9 (.one 10 (.one 11 (.one 12 (.one 13 (.one 14 (.one 15 (.one 16 (.one 17 (.one 18 (.one 19 (.one 20 (.one 21 (.one 22 (.one 23 (.one 24 (.one 25 (.one 26 (.one 27 (.one 28 (.one 29 (.one 30 (.one 31 (.one 32 (.one 33 (.one 34 (.one 35 (.one 36 (.one 37 (.one 38 (.one 39 (.one 40 (.one 41 (.one 42 .done)))))))))))))))))))))))))))))))))))))))))), clOf [.pure, .read, .pure, .pure, .pure, .read, .pure, .pure, .pure, .pure, .read, .pure, .pure, .pure, .read, .pure, .pure, .pure, .pure, .read, .pure, .pure, .pure, .read, .pure, .pure, .pure, .pure, .read, .pure, .pure, .pure, .pure, .read, .pure, .read, .pure, .pure, .pure, .pure, .read, .pure, .pure]) else bif Nat.beq id 13 then (.one 0 (.one 2 (.one 1 (.one 3 (.one 4 (.one 5 (.one 6 .done)))))), clOf [.read, .ext, .read, .loud, .pure, .pure, .pure]) else (.done, clOf [])
def ord7 : Nat → Ord × (Nat → Cls) := fun id => bif Nat.beq id 8 then (.one 0 (.one 1 (.one 2 (.one 3 (.one 4 (.one 5 (.one 6 (.one 7 (.one 8 (.one 9 (.one 10 (.one 11 (.one 12 (.one 13 .done))))))))))))), clOf [.read, .pure, .pure, .pure, .pure, .read, .pure, .pure, .pure, .pure, .read, .pure, .pure, .loud]) else (.done, clOf [])
def ord8 : Nat → Ord × (Nat → Cls) := fun id => bif Nat.beq id 6 then (.one 0 (.one 1 (.one 2 (.one 3 (.one 4 (.one 5 (.one 6 (.one 7 (.one 8 .done)))))))), clOf [.pure, .pure, .pure, .read, .pure, .pure, .pure, .read, .pure]) else (.done, clOf [])
def ord9 : Nat → Ord × (Nat → Cls) := fun id => bif Nat.beq id 13 then (.one 0 (.one 1 (.one 2 (.one 3 (.one 4 (.one 5 (.one 6 (.one 7 (.one 8 (.one 9 (.one 10 (.one 11 (.one 12 (.one 13 .done))))))))))))), clOf [.pure, .pure, .pure, .pure, .pure, .read, .pure, .pure, .pure, .pure, .read, .pure, .pure, .loud]) else (.done, clOf [])
def ord10 : Nat → Ord × (Nat → Cls) := fun id => bif Nat.beq id 8 then (.one 0 (.one 1 (.one 2 (.one 3 (.one 4 (.one 5 (.one 6 (.one 7 (.one 8 (.one 9 (.one 10 (.one 11 (.one 12 (.one 13 (.one 14 (.one 15 (.one 16 .done)))))))))))))))), clOf [.pure, .pure, .read, .loud, .pure, .pure, .pure, .pure, .read, .pure, .pure, .pure, .pure, .read, .pure, .pure, .pure]) else bif Nat.beq id 10 then (.one 0 (.one 1 (.one 3 (.one 2 (.one 4 .done)))), clOf [.pure, .read, .ext, .read, .loud]) else (.done, clOf [])
def ord11 : Nat → Ord × (Nat → Cls) := fun id => bif Nat.beq id 9 then (.one 0 (.one 1 (.one 2 (.one 3 (.one 4 (.one 5 (.one 6 (.one 7 (.one 8 (.one 9 (.one 10 (.one 11 (.one 12 .done)))))))))))), clOf [.pure, .pure, .read, .pure, .pure, .read, .pure, .read, .pure, .read, .pure, .pure, .loud]) else (.done, clOf [])
abbrev ord12 := ordZ
abbrev ord13 := ordZ
abbrev ord14 := ordZ
abbrev ord15 := ordZ
def ord16 : Nat → Ord × (Nat → Cls) := fun id => bif Nat.beq id 7 then (.one 0 (.one 1 (.one 2 (.one 4 (.one 5 (.one 3 (.one 6 (.one 7 .done))))))), clOf [.pure, .pure, .pure, .loud, .pure, .pure, .pure, .loud]) else (.done, clOf [])
def ord17 : Nat → Ord × (Nat → Cls) := fun id => bif Nat.beq id 1 then (.one 0 (.one 1 (.one 2 (.one 3 (.one 4 (.one 5 (.one 6 (.one 7 (.one 8 (.one 9 (.one 10 (.one 11 (.one 12 .done)))))))))))), clOf [.read, .loud, .pure, .pure, .pure, .read, .pure, .pure, .pure, .pure, .read, .pure, .pure]) else bif Nat.beq id 4 then (.one 0 (.one 1 (.one 2 (.one 3 (.one 4 (.one 5 (.one 6 (.one 7 (.one 8 (.one 9 (.one 10 (.one 11 (.one 12 .done)))))))))))), clOf [.pure, .pure, .read, .pure, .pure, .read, .pure, .read, .pure, .read, .pure, .pure, .loud]) else (.done, clOf [])
def ord18 : Nat → Ord × (Nat → Cls) := fun id => bif Nat.beq id 1 then (.one 0 (.one 1 (.one 2 (.one 3 (.one 4 (.one 5 (.one 6 (.one 7 (.one 8 (.one 9 .done))))))))), clOf [.pure, .pure, .pure, .pure, .pure, .pure, .read, .pure, .loud, .pure]) else (.done, clOf [])
def ord19 : Nat → Ord × (Nat → Cls) := fun id => bif Nat.beq id 1 then (.one 0 (.one 1 (.one 2 (.one 3 (.one 4 (.one 5 (.one 6 (.one 7 (.one 8 (.one 9 (.one 10 (.one 11 (.one 12 (.one 13 (.one 14 (.one 15 (.one 16 (.one 17 (.one 18 (.one 19 (.one 20 (.one 21 (.one 22 (.one 23 (.one 24 (.one 25 (.one 26 (.one 27 (.one 28 (.one 29 .done))))))))))))))))))))))))))))), clOf [.pure, .loud, .pure, .pure, .read, .pure, .pure, .pure, .pure, .read, .pure, .pure, .pure, .pure, .pure, .pure, .read, .pure, .pure, .pure, .pure, .read, .pure, .pure, .read, .pure, .read, .pure, .pure, .pure]) else (.done, clOf [])
abbrev ord20 := ordZ
def ord21 : Nat → Ord × (Nat → Cls) := fun id => bif Nat.beq id 4 then (.one 0 (.one 1 (.one 2 (.one 3 (.one 4 (.one 5 (.one 6 (.one 7 (.one 8 .done)))))))), clOf [.pure, .pure, .pure, .read, .pure, .pure, .pure, .read, .pure]) else (.done, clOf [])
abbrev ord22 := ordZ
abbrev ord23 := ordZ
def ord24 : Nat → Ord × (Nat → Cls) := fun id => bif Nat.beq id 6 then (.one 0 (.one 1 (.one 2 (.one 3 (.one 4 (.one 5 (.one 6 (.one 7 (.one 8 (.one 9 .done))))))))), clOf [.pure, .pure, .pure, .read, .pure, .pure, .pure, .read, .loud, .pure]) else (.done, clOf [])
abbrev ord25 := ordZ
abbrev ord26 := ordZ
def ord27 : Nat → Ord × (Nat → Cls) := fun id => bif Nat.beq id 6 then (.one 0 (.one 1 (.one 2 (.one 3 (.one 4 (.one 5 (.one 6 (.one 7 (.one 8 (.one 9 .done))))))))), clOf [.pure, .read, .pure, .read, .pure, .pure, .read, .loud, .pure, .pure]) else (.done, clOf [])
def ord28 : Nat → Ord × (Nat → Cls) := fun id => bif Nat.beq id 6 then (.one 0 (.one 1 (.one 2 (.one 3 (.one 4 (.one 5 (.one 6 (.one 7 (.one 8 (.one 9 (.one 10 (.one 11 (.one 12 (.one 13 (.one 14 (.one 15 (.one 16 (.one 17 (.one 18 .done)))))))))))))))))), clOf [.pure, .read, .pure, .read, .pure, .pure, .read, .loud, .pure, .pure, .pure, .read, .pure, .pure, .pure, .read, .loud, .pure, .pure]) else (.done, clOf [])
abbrev ord29 := ordZ
abbrev ord30 := ordZ
def ord31 : Nat → Ord × (Nat → Cls) := fun id => bif Nat.beq id 1 then (.one 0 (.one 1 (.one 2 (.one 3 (.one 4 (.one 5 (.one 6 (.one 7 (.one 8 (.one 9 (.one 10 (.one 11 (.one 12 (.one 13 (.one 14 (.one 15 (.one 16 (.one 17 (.one 18 (.one 19 (.one 20 (.one 21 (.one 22 (.one 23 (.one 24 (.one 25 (.one 26 (.one 27 (.one 28 (.one 29 (.one 30 (.one 31 (.one 32 (.one 33 (.one 34 (.one 35 (.one 36 .done)))))))))))))))))))))))))))))))))))), clOf [.pure, .read, .loud, .pure, .pure, .pure, .read, .pure, .read, .pure, .pure, .loud, .pure, .pure, .pure, .pure, .read, .pure, .read, .pure, .read, .pure, .read, .pure, .pure, .pure, .pure, .pure, .read, .pure, .pure, .pure, .pure, .read, .loud, .pure, .pure]) else bif Nat.beq id 3 then (.one 0 (.one 2 (.one 3 (.one 1 (.one 4 (.one 5 (.one 6 (.one 7 (.one 8 (.one 9 .done))))))))), clOf [.read, .ext, .pure, .read, .read, .pure, .pure, .pure, .pure, .pure]) else (.done, clOf [])
abbrev ord32 := ordZ
abbrev ord33 := ordZ
def ord34 : Nat → Ord × (Nat → Cls) := fun id => bif Nat.beq id 7 then (.one 0 (.one 1 (.one 2 (.one 3 (.one 4 (.one 5 (.one 6 (.one 7 (.one 8 .done)))))))), clOf [.pure, .pure, .pure, .read, .pure, .pure, .pure, .read, .pure]) else bif Nat.beq id 8 then (.one 0 (.one 1 (.one 2 (.one 3 (.one 4 (.one 5 (.one 6 (.one 7 (.one 8 (.one 9 (.one 10 (.one 11 (.one 12 (.one 13 (.one 14 .done)))))))))))))), clOf [.pure, .pure, .pure, .pure, .pure, .read, .pure, .pure, .pure, .pure, .read, .pure, .ext, .loud, .pure]) else (.done, clOf [])
abbrev ord35 := ordZ
abbrev ord36 := ordZ
def ord37 : Nat → Ord × (Nat → Cls) := fun id => bif Nat.beq id 1 then (.one 0 (.one 1 (.one 2 (.one 3 (.one 4 (.one 5 (.one 6 (.one 7 (.one 8 (.one 9 (.one 10 (.one 11 (.one 12 (.one 13 (.one 14 (.one 15 (.one 16 (.one 17 (.one 18 (.one 19 (.one 20 (.one 21 (.one 22 (.one 23 (.one 24 (.one 25 (.one 26 (.one 27 (.one 28 (.one 29 (.one 30 (.one 31 (.one 32 (.one 33 (.one 34 (.one 35 (.one 36 (.one 37 (.one 38 (.one 39 (.one 40 (.one 41 (.one 42 (.one 43 .done))))))))))))))))))))))))))))))))))))))))))), clOf [.pure, .read, .loud, .pure, .pure, .pure, .read, .pure, .pure, .pure, .pure, .read, .pure, .read, .pure, .pure, .pure, .pure, .pure, .read, .pure, .read, .pure, .read, .pure, .read, .pure, .pure, .pure, .pure, .pure, .read, .pure, .pure, .pure, .pure, .read, .pure, .pure, .pure, .pure, .read, .pure, .pure]) else (.done, clOf [])
def ord38 : Nat → Ord × (Nat → Cls) := fun id => bif Nat.beq id 1 then (.one 0 (.one 1 (.one 2 (.one 3 (.one 4 (.one 5 (.one 6 (.one 7 (.one 8 (.one 9 (.one 10 (.one 11 (.one 12 (.one 13 (.one 14 (.one 15 (.one 16 (.one 17 (.one 18 (.one 19 (.one 20 (.one 21 (.one 22 (.one 23 (.one 24 (.one 25 (.one 26 (.one 27 (.one 28 (.one 29 .done))))))))))))))))))))))))))))), clOf [.pure, .loud, .pure, .pure, .read, .pure, .pure, .pure, .pure, .read, .pure, .pure, .pure, .pure, .pure, .pure, .read, .pure, .pure, .pure, .pure, .read, .pure, .pure, .read, .pure, .read, .pure, .pure, .pure]) else (.done, clOf [])
abbrev ord39 := ordZ
abbrev ord40 := ordZ
abbrev ord41 := ordZ
abbrev ord42 := ordZ
abbrev ord43 := ordZ
def ord44 : Nat → Ord × (Nat → Cls) := fun id => bif Nat.beq id 5 then (.one 0 (.one 1 (.one 2 (.one 3 (.one 4 (.one 5 (.one 6 (.one 7 (.one 8 (.one 11 (.one 12 (.one 9 (.one 10 (.one 13 (.one 14 .done)))))))))))))), clOf [.pure, .pure, .pure, .pure, .pure, .pure, .pure, .read, .pure, .ext, .loud, .pure, .pure, .pure, .loud]) else (.done, clOf [])
def ord45 : Nat → Ord × (Nat → Cls) := fun id => bif Nat.beq id 6 then (.one 0 (.one 1 (.one 2 (.one 3 (.one 4 (.one 5 (.one 6 (.one 7 (.one 8 .done)))))))), clOf [.pure, .pure, .pure, .read, .pure, .pure, .pure, .read, .pure]) else (.done, clOf [])
abbrev ord46 := ordZ
def ord47 : Nat → Ord × (Nat → Cls) := fun id => bif Nat.beq id 11 then (.one 0 (.one 1 (.one 2 (.one 3 (.one 4 (.one 5 (.one 6 (.one 7 .done))))))), clOf [.pure, .pure, .pure, .pure, .read, .pure, .read, .pure]) else (.done, clOf [])
def ord48 : Nat → Ord × (Nat → Cls) := fun id => bif Nat.beq id 4 then (.one 0 (.one 1 (.one 2 (.one 3 (.one 4 (.one 5 (.one 6 (.one 7 (.one 8 (.one 9 (.one 10 (.one 11 (.one 12 (.one 13 (.one 14 (.one 15 .done))))))))))))))), clOf [.pure, .pure, .pure, .read, .loud, .pure, .pure, .pure, .pure, .pure, .pure, .pure, .pure, .read, .loud, .pure]) else (.done, clOf [])
def ord49 : Nat → Ord × (Nat → Cls) := fun id => bif Nat.beq id 9 then (.one 0 (.one 1 (.one 2 (.one 3 (.one 4 (.one 5 (.one 6 (.one 7 (.one 8 (.one 9 (.one 10 (.one 11 (.one 12 (.one 13 (.one 14 (.one 15 (.one 16 (.one 17 (.one 18 (.one 19 (.one 20 (.one 21 (.one 22 .done)))))))))))))))))))))), clOf [.pure, .read, .pure, .pure, .pure, .pure, .read, .read, .loud, .pure, .pure, .pure, .read, .pure, .pure, .pure, .pure, .pure, .read, .read, .loud, .pure, .pure]) else (.done, clOf [])
def ord50 : Nat → Ord × (Nat → Cls) := fun id => bif Nat.beq id 10 then (.one 0 (.one 1 (.one 2 (.one 3 (.one 4 (.one 5 (.one 6 (.one 7 (.one 8 (.one 9 (.one 10 (.one 11 (.one 12 (.one 13 (.one 14 (.one 15 (.one 16 .done)))))))))))))))), clOf [.pure, .read, .pure, .pure, .read, .pure, .pure, .pure, .read, .pure, .pure, .read, .pure, .read, .pure, .pure, .pure]) else bif Nat.beq id 20 then (.one 0 (.one 1 (.one 2 (.one 3 (.one 4 (.one 5 (.one 6 (.one 7 (.one 8 (.one 9 (.one 10 (.one 11 (.one 12 (.one 13 (.one 14 (.one 15 (.one 16 (.one 17 (.one 18 (.one 19 (.one 20 (.one 21 (.one 22 (.one 23 (.one 24 .done)))))))))))))))))))))))), clOf [.pure, .read, .pure, .pure, .pure, .read, .pure, .read, .pure, .pure, .pure, .pure, .pure, .read, .pure, .pure, .read, .pure, .read, .pure, .pure, .read, .pure, .pure, .pure]) else bif Nat.beq id 26 then (.one 0 (.one 1 (.one 2 (.one 3 (.one 4 (.one 5 (.one 6 (.one 7 (.one 8 (.one 9 (.one 10 (.one 11 (.one 12 (.one 13 (.one 14 (.one 15 (.one 16 (.one 17 (.one 18 (.one 19 (.one 20 (.one 21 (.one 22 (.one 23 (.one 24 (.one 25 (.one 26 (.one 27 (.one 28 (.one 29 (.one 30 (.one 31 (.one 32 (.one 33 (.one 34 (.one 35 .done))))))))))))))))))))))))))))))))))), clOf [.pure, .pure, .pure, .pure, .read, .pure, .pure, .read, .loud, .pure, .pure, .pure, .pure, .pure, .pure, .pure, .read, .pure, .pure, .read, .pure, .pure, .pure, .read, .pure, .pure, .read, .pure, .read, .pure, .pure, .read, .pure, .pure, .pure, .pure]) else (.done, clOf [])
def ord51 : Nat → Ord × (Nat → Cls) := fun id => bif Nat.beq id 10 then (.one 0 (.one 1 (.one 2 (.one 3 (.one 4 (.one 5 (.one 6 (.one 7 (.one 8 (.one 9 (.one 10 (.one 11 (.one 12 (.one 13 (.one 14 (.one 15 (.one 16 (.one 17 (.one 18 (.one 19 (.one 20 (.one 21 (.one 22 (.one 23 (.one 24 (.one 25 (.one 26 (.one 27 (.one 28 (.one 29 (.one 30 (.one 31 (.one 32 (.one 33 (.one 34 (.one 35 (.one 36 (.one 37 (.one 38 (.one 39 .done))))))))))))))))))))))))))))))))))))))), clOf [.pure, .read, .pure, .pure, .pure, .read, .pure, .pure, .pure, .pure, .read, .pure, .pure, .pure, .pure, .read, .pure, .read, .pure, .pure, .pure, .pure, .pure, .read, .pure, .pure, .pure, .pure, .pure, .read, .pure, .read, .pure, .read, .pure, .read, .pure, .read, .pure, .pure]) else bif Nat.beq id 15 then (.one 0 (.one 1 (.one 2 (.one 3 (.one 4 (.one 5 (.one 6 (.one 7 (.one 8 (.one 9 (.one 10 (.one 11 (.one 12 (.one 13 (.one 14 (.one 15 (.one 16 .done)))))))))))))))), clOf [.read, .pure, .read, .pure, .pure, .pure, .read, .pure, .read, .pure, .pure, .pure, .read, .pure, .read, .pure, .loud]) else (.done, clOf [])
abbrev ord52 := ordZ
def ord53 : Nat → Ord × (Nat → Cls) := fun id => bif Nat.beq id 5 then (.one 0 (.one 1 (.one 2 (.one 3 (.one 4 (.one 5 (.one 6 (.one 7 (.one 8 (.one 9 (.one 10 (.one 11 (.one 12 (.one 13 (.one 14 (.one 15 (.one 16 .done)))))))))))))))), clOf [.pure, .read, .pure, .pure, .read, .pure, .pure, .pure, .read, .pure, .pure, .read, .pure, .read, .pure, .pure, .pure]) else bif Nat.beq id 7 then (.one 0 (.one 1 (.one 2 (.one 3 (.one 4 (.one 5 (.one 6 (.one 7 (.one 8 (.one 9 (.one 10 (.one 11 .done))))))))))), clOf [.pure, .pure, .read, .pure, .read, .pure, .pure, .read, .pure, .read, .pure, .pure]) else (.done, clOf [])
abbrev ord54 := ordZ
abbrev ord55 := ordZ
abbrev ord56 := ordZ
abbrev ord57 := ordZ
abbrev ord58 := ordZ
abbrev ord59 := ordZ
abbrev ord60 := ordZ
abbrev ord61 := ordZ
abbrev ord62 := ordZ
abbrev ord63 := ordZ
abbrev ord64 := ordZ
abbrev ord65 := ordZ
def ord66 : Nat → Ord × (Nat → Cls) := fun id => bif Nat.beq id 5 then (.one 0 (.one 1 (.one 2 (.one 3 (.one 4 (.one 5 (.one 6 (.one 7 (.one 8 (.one 9 (.one 10 (.one 11 (.one 12 (.one 13 (.one 14 (.one 15 (.one 16 (.one 17 (.one 18 (.one 19 (.one 20 (.one 21 (.one 22 (.one 23 (.one 24 (.one 25 (.one 26 (.one 27 (.one 28 (.one 29 (.one 30 (.one 31 (.one 32 (.one 33 (.one 34 (.one 35 .done))))))))))))))))))))))))))))))))))), clOf [.pure, .read, .pure, .pure, .pure, .read, .pure, .pure, .pure, .pure, .pure, .pure, .pure, .pure, .read, .pure, .pure, .pure, .pure, .read, .pure, .read, .pure, .pure, .pure, .pure, .pure, .read, .pure, .pure, .pure, .pure, .read, .loud, .pure, .pure]) else (.done, clOf [])
def ord67 : Nat → Ord × (Nat → Cls) := fun id => bif Nat.beq id 7 then (.one 0 (.one 1 (.one 2 (.one 3 (.one 4 (.one 5 (.one 6 (.one 7 (.one 8 (.one 9 (.one 10 (.one 11 (.one 12 (.one 13 (.one 14 (.one 15 (.one 16 (.one 17 (.one 18 (.one 19 (.one 20 (.one 21 (.one 22 (.one 23 (.one 24 (.one 25 (.one 26 (.one 27 (.one 28 (.one 29 (.one 30 (.one 31 (.one 32 (.one 33 (.one 34 (.one 35 (.one 36 (.one 37 (.one 38 (.one 39 .done))))))))))))))))))))))))))))))))))))))), clOf [.pure, .read, .pure, .pure, .pure, .read, .pure, .pure, .pure, .pure, .pure, .read, .pure, .read, .pure, .read, .pure, .read, .pure, .pure, .pure, .pure, .read, .pure, .read, .pure, .pure, .pure, .pure, .read, .pure, .read, .pure, .read, .pure, .read, .pure, .read, .pure, .pure]) else (.done, clOf [])
abbrev ord68 := ordZ
def ord69 : Nat → Ord × (Nat → Cls) := fun id => bif Nat.beq id 4 then (.one 0 (.one 1 (.one 2 (.one 3 (.one 4 (.one 5 (.one 6 (.one 7 (.one 8 .done)))))))), clOf [.pure, .pure, .pure, .read, .pure, .pure, .pure, .read, .pure]) else bif Nat.beq id 5 then (.one 0 (.one 1 (.one 2 (.one 3 (.one 4 (.one 5 (.one 6 (.one 7 (.one 8 (.one 9 .done))))))))), clOf [.pure, .pure, .pure, .read, .pure, .pure, .pure, .read, .pure, .pure]) else (.done, clOf [])
def ord70 : Nat → Ord × (Nat → Cls) := fun id => bif Nat.beq id 6 then (.one 0 (.one 1 (.one 2 (.one 3 (.one 4 (.one 5 (.one 6 (.one 7 (.one 8 (.one 9 (.one 10 (.one 11 (.one 12 (.one 13 (.one 14 (.one 15 (.one 16 (.one 17 (.one 18 (.one 19 (.one 20 (.one 21 (.one 22 (.one 23 (.one 24 (.one 25 (.one 26 (.one 27 (.one 28 (.one 29 (.one 30 (.one 31 (.one 32 (.one 33 (.one 34 (.one 35 .done))))))))))))))))))))))))))))))))))), clOf [.pure, .read, .pure, .pure, .pure, .read, .pure, .pure, .pure, .pure, .pure, .pure, .pure, .pure, .read, .pure, .pure, .pure, .pure, .read, .pure, .read, .pure, .pure, .pure, .pure, .pure, .read, .pure, .pure, .pure, .pure, .read, .loud, .pure, .pure]) else bif Nat.beq id 18 then (.one 0 (.one 1 (.one 2 (.one 3 (.one 4 (.one 5 (.one 6 (.one 7 (.one 8 (.one 9 (.one 10 (.one 11 (.one 12 (.one 13 (.one 14 (.one 15 (.one 16 (.one 17 .done))))))))))))))))), clOf [.pure, .pure, .pure, .pure, .pure, .pure, .pure, .read, .pure, .pure, .pure, .pure, .read, .pure, .read, .pure, .pure, .pure]) else (.done, clOf [])
def ord71 : Nat → Ord × (Nat → Cls) := fun id => bif Nat.beq id 6 then (.one 0 (.one 1 (.one 2 (.one 3 (.one 4 (.one 5 (.one 6 (.one 7 (.one 8 (.one 9 (.one 10 (.one 11 (.one 12 (.one 13 (.one 14 (.one 15 (.one 16 (.one 17 (.one 18 (.one 19 (.one 20 .done)))))))))))))))))))), clOf [.pure, .read, .pure, .pure, .pure, .read, .pure, .pure, .pure, .read, .pure, .read, .pure, .pure, .pure, .read, .pure, .pure, .pure, .loud, .pure]) else (.done, clOf [])
abbrev ord72 := ordZ
abbrev ord73 := ordZ
abbrev ord74 := ordZ
def ord75 : Nat → Ord × (Nat → Cls) := fun id => bif Nat.beq id 4 then (.one 0 (.one 1 (.one 2 (.one 3 (.one 4 (.one 5 (.one 6 (.one 7 (.one 8 .done)))))))), clOf [.pure, .pure, .pure, .read, .pure, .pure, .pure, .read, .pure]) else (.done, clOf [])
abbrev ord76 := ordZ
abbrev ord77 := ordZ
def ord78 : Nat → Ord × (Nat → Cls) := fun id => bif Nat.beq id 6 then (.one 0 (.one 1 (.one 2 (.one 3 (.one 4 (.one 5 (.one 6 (.one 7 (.one 8 .done)))))))), clOf [.pure, .pure, .pure, .read, .pure, .pure, .pure, .read, .pure]) else (.done, clOf [])
abbrev ord79 := ordZ
abbrev ord80 := ordZ
abbrev ord81 := ordZ
abbrev ord82 := ordZ
abbrev ord83 := ordZ
def ord84 : Nat → Ord × (Nat → Cls) := fun id => bif Nat.beq id 5 then (.one 1 (.one 2 (.one 3 (.one 4 (.one 0 (.one 5 .done))))), clOf [.loud, .pure, .pure, .pure, .pure, .loud]) else (.done, clOf [])
abbrev ord85 := ordZ
abbrev ord86 := ordZ
abbrev ord87 := ordZ
abbrev ord88 := ordZ
def ord89 : Nat → Ord × (Nat → Cls) := fun id => bif Nat.beq id 6 then (.one 0 (.one 1 (.one 2 (.one 3 (.one 4 (.one 5 (.one 6 (.one 7 (.one 8 (.one 9 (.one 10 (.one 11 (.one 12 (.one 13 (.one 14 (.one 15 (.one 16 (.one 17 (.one 18 .done)))))))))))))))))), clOf [.pure, .pure, .pure, .pure, .pure, .pure, .pure, .pure, .pure, .pure, .pure, .pure, .pure, .pure, .pure, .pure, .read, .pure, .pure]) else (.done, clOf [])
abbrev ord90 := ordZ
end Go.Proofs.Ytkcbaalbgobndaa
