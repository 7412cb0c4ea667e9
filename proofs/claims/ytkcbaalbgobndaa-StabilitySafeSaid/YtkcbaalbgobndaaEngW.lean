/- From readings of arguments to abstract values, and from contracts to calls. Generic over the program. -/
import Derived.Test.YtkcbaalbgobndaaEngV
import Derived.Test.YtkcbaalbgobndaaEngH
namespace Go.CF
open Go
/-- What is read so is this list of abstract cells. -/
structure Avr {α : Type} (r : Rp α) (f : α → List AV) : Prop where
  rep : ∀ {h F cs a}, r.R h F cs a → RepL h F cs (f a)
def iC (x : Int) : List AV := [.val (.int .i64 x)]
theorem Avr.int : Avr (Rp.int .i64) iC := ⟨by rintro _ _ _ _ ⟨rfl, _⟩; exact ⟨⟨rfl, trivial⟩, fun u hu => by rw [List.mem_singleton.1 hu]; rfl⟩⟩
theorem Avr.unit : Avr Rp.unit fun _ => [] := ⟨fun h => by have h : _ = _ := h; subst h; exact ⟨trivial, fun u hu => by cases hu⟩⟩
theorem Avr.pair {α β : Type} {r : Rp α} {s : Rp β} {f : α → List AV} {g : β → List AV} (hr : Avr r f) (hs : Avr s g) : Avr (r.pair s) fun x => f x.1 ++ g x.2 :=
  ⟨by
    rintro _ _ _ _ ⟨c1, c2, rfl, h1, h2⟩
    exact ⟨(hr.rep h1).t.app (hs.rep h2).t, fun u hu => (List.mem_append.1 hu).elim ((hr.rep h1).one u) ((hs.rep h2).one u)⟩⟩
theorem Avr.iso {α β : Type} {r : Rp α} {f : α → List AV} (hr : Avr r f) (k : β → α) : Avr (r.iso k) fun x => f (k x) := ⟨fun h => hr.rep h⟩
theorem Avr.cast {α : Type} {r : Rp α} {f g : α → List AV} (hr : Avr r f) (h : ∀ a, f a = g a) : Avr r g := ⟨fun x => h _ ▸ hr.rep x⟩
theorem Avr.slice {α : Type} {r : Rp α} {f : α → List AV} (hr : Avr r f) : Avr r.slice fun l => [.sl r.sz l f] :=
  ⟨by
    intro h F cs l hrd
    have h1 := r.slice.one hrd
    obtain ⟨v, rfl, hb, hl, rows, hs, hlen, hrow⟩ := hrd
    refine ⟨⟨⟨hl, ?_⟩, trivial⟩, h1⟩
    rcases hs.ok with ⟨p, cap, e1, e2, _⟩ | ⟨b, o, cap, e1, e2, e3, e4, e5⟩
    · exact .inl ⟨List.eq_nil_of_length_eq_zero e2, p, cap, e1⟩
    · refine .inr ⟨b, o, cap, rows, e1, e2, e3, hb b ?_, e4, e5, hlen, fun i row x h2 h3 => hr.rep (hrow i row x h2 h3), fun row hm => ?_⟩
      · subst e1
        obtain ⟨m, hm⟩ : ∃ m, l.length = m + 1 := ⟨l.length - 1, by omega⟩
        rw [hm]; exact List.mem_singleton.2 rfl
      · obtain ⟨i, hi⟩ := List.getElem?_of_mem hm
        have hil := (List.getElem?_eq_some_iff.1 hi).1
        exact r.len (hrow i row (l[i]'(by omega)) hi (List.getElem?_eq_getElem _))⟩
theorem CallP.calls {P : Program} {f : FuncId} {as : List AV} {v : Value} {h : Heap} {vs : List Value} (hc : CallP P f as (.val v)) (hr : RepT h (Old h) vs as) : CallsH P f vs.toArray h fun x h' => x = v ∧ Stp [] h h' := by
  have hin : HpOK h (Old h) (U []) [] h (Old h) [] :=
    ⟨trivial, fun b hb => ⟨hb, .inl hb⟩, fun _ h => h, fun O hO => (by cases hO), List.Pairwise.nil, FPx.refl h⟩
  refine (CallA.run hc h (Old h) [] vs hr hin).mono fun x h' ⟨r, own, G', Os', ⟨g1, g2⟩, g3, g4⟩ => ?_
  subst g1; subst g2
  exact ⟨g3, g4.fp.size, fun b hb _ => g4.fp.same b (fun ⟨O, hO, _⟩ => by cases hO) hb⟩
end Go.CF
