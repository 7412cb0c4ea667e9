/- Part 6 of the ground of this proof: what its texts say of the model, the program and the plain data; conditions: those that are named. -/
import Derived.RangeFuncSeq
import Derived.Maps.RangeRun
import Derived.Test.YthlpimbhonihhaaR05
set_option maxRecDepth 100000
set_option maxHeartbeats 80000000
namespace Go.CF
open Go
section
variable {Γ:Cx} {k:List KI} {e:EA} {o:List Res} {N:NA} {c:Cls} {d:Tmp} {ty:TypeId} {x y z:Operand} {t u:TypeId} {kk:IntKind} {i:Int}
/-! ### Capacity -/
def capV : Value→Nat
 | .slice _ _ c=>c
 | _=>0
/-! ### Rows of plain values -/
def valR(r:List Value) : List AV:=r.map AV.val
theorem repT_val{h:Heap}{G:Nat→Prop} :∀{vs r:List Value},RepT h G vs (valR r)→vs=r
 | [],[],_=>rfl
 | _ :: _,_ :: _,⟨h1,h2⟩=>by
  have h1:_=_:=h1
  rw [h1,repT_val h2]
 | [],_ :: _,h=>h.elim
 | _ :: _,[],h=>h.elim
structure RowsV (sz:Nat) (L:List (List Value)):Prop where
 sz:∀r∈L,r.length=sz
 one:∀r∈L,∀u∈r,u.oneCell'=true
def arrX(v:Value)(T:TypeId)(sz:Nat)(L:List (List Value))(m:Nat) : Res :=
  ⟨fun h O _=>(∀x,O x↔x∈blkOf v)∧RowsV sz L∧L.length≤m∧∃junk,Own h v T sz m (L.flatten ++ junk),
   fun x ⟨ho,hv,hl,junk,hb⟩=>⟨ho,hv,hl,junk,by
      rcases hb.ok with h1|⟨b,of,cap,L',e,hbl,h1,h2,h3⟩
      · exact⟨hb.len_vs, .inl h1⟩
      · exact⟨hb.len_vs, .inr ⟨b,of,cap,L',e,⟨(x.same b (.inl ((ho b).2 (by simp [e,blkOf]))) hbl.lt).trans hbl.get⟩,h1,h2,h3⟩⟩⟩,
   fun _ ⟨ho,hv,hl,junk,hb⟩=>⟨ho,hv,hl,junk,hb⟩,
   fun⟨ho,_,_,_,hb⟩ y hy=>hb.nc ((ho y).1 hy)⟩
structure TkX (o:List Res) (v:Value) (k:TypeId→Nat→List (List Value)→Nat→List Res→Prop):Prop where
 ok:∃T sz L m rest,Take o (arrX v T sz L m) rest∧k T sz L m rest
theorem TkX.r{o rest:List Res}{v:Value}{k:TypeId→Nat→List (List Value)→Nat→List Res→Prop}{T:TypeId}{sz m:Nat}{L:List (List Value)}(h:Take o (arrX v T sz L m) rest)(hk:k T sz L m rest) : TkX o v k:=⟨T,sz,L,m,rest,h,hk⟩
structure ExX (i:Int) (L m:Nat) (cp:Nat) (A X:Nat→Prop):Prop where
 ok:∃j:Nat,i=(j:Int)∧j≤cp∧((j≤L∧A j)∨(L≤j∧X j))
theorem ExX.short{i:Int}{L m cp:Nat}{A X:Nat→Prop}{j:Nat}(h:i=(j:Int))(h1:j≤cp)(h2:j≤L)(hk:A j) : ExX i L m cp A X:=⟨j,h,h1, .inl ⟨h2,hk⟩⟩
theorem ExX.long{i:Int}{L m cp:Nat}{A X:Nat→Prop}{j:Nat}(h:i=(j:Int))(h1:j≤cp)(h2:L≤j)(hk:X j) : ExX i L m cp A X:=⟨j,h,h1, .inr ⟨h2,hk⟩⟩
end
section
variable {P:Program} {tt:Nat→Option TI} {en:Nat→Bool} {n:Nat} {ty t u:TypeId} {env:Env} {h:Heap} {x y:Operand}
end
section
variable {Γ:Cx} {k:List KI} {e:EA} {o:List Res} {N:NA} {c:Cls} {d:Tmp} {ty:TypeId} {x y z:Operand} {t u:TypeId} {kk:IntKind} {i:Int}
theorem Upd.fpx{h h':Heap}{b:Nat}{T:TypeId}{l:List Value}(hu:Upd h b T l h'){O:Nat→Prop}(ho:O b) : FPx (fun y=>¬O y) h h' :=
 ⟨hu.stp.size,fun y hy hl=>hu.stp.same y hl (fun hm=>hy (by rw [zH.1 hm];exact ho))⟩
theorem con_seg{h':Heap}{hh:Heap}{env:Env}{G:Nat→Prop}{R R':Res}{rest:List Res}{O:Nat→Prop}{Os:List (Nat→Prop)}{b:Nat}{T:TypeId}{l:List Value}(cn:Con Γ ⟨e,R :: rest⟩ env hh G (O :: Os))(hu:Upd hh b T l h')(ho:O b)(hr:FPx G hh h'→R'.R h' O G) : Con Γ ⟨e,R' :: rest⟩ env h' G (O :: Os):=by
 have hx:=hu.fpx ho
 have hg:FPx G hh h':=hx.mono fun y hy hoy=>(cn.hp.o O (by simp) y hoy).2.2 hy
 exact cn.upd (R':=R') (O':=O) hx (fun y hy=>⟨Nat.lt_of_lt_of_le (cn.hp.o O (by simp) y hy).1 hu.stp.size, .inl hy⟩) (hr hg)
end
section
variable {Γ:Cx} {k:List KI} {e:EA} {o:List Res} {N:NA} {c:Cls} {d:Tmp} {ty:TypeId} {x y z:Operand} {t u:TypeId} {kk:IntKind} {i:Int}
structure CpS (o:List Res) (v:Value) (A:Prop) (X:TypeId→Nat→List (List Value)→Nat→List Res→Prop):Prop where
 ok:A∨∃T sz L m rest,Take o (arrX v T sz L m) rest∧X T sz L m rest
theorem CpS.all{α:Type}{o rest:List Res}{v:Value}{A:Prop}{X:TypeId→Nat→List (List Value)→Nat→List Res→Prop}{T:TypeId}{sz:Nat}{l:List α}{f:α→List AV}(_:Take o (arrR v T sz l f) rest)(h:A) : CpS o v A X:=⟨.inl h⟩
theorem CpS.part{o rest:List Res}{v:Value}{A:Prop}{X:TypeId→Nat→List (List Value)→Nat→List Res→Prop}{T:TypeId}{sz m:Nat}{L:List (List Value)}(tk:Take o (arrX v T sz L m) rest)(h:X T sz L m rest) : CpS o v A X:=⟨.inr ⟨T,sz,L,m,rest,tk,h⟩⟩
end
section
variable {Γ:Cx} {k:List KI} {e:EA} {o:List Res} {N:NA} {c:Cls} {d:Tmp} {ty:TypeId} {x y z:Operand} {t u:TypeId} {kk:IntKind} {i:Int}
structure Ovl (o:List Res) (a b:AV) (k:Prop):Prop where
 ok:∃(u v:Value) (s j m:Nat) (α:Type) (T sz:Nat) (l:List α) (f:α→List AV) (rest:List Res) (T' sz':Nat) (L:List (List Value)) (m':Nat) (rest':List Res),a= .ow u∧b= .os v s j m∧Take o (arrR u T sz l f) rest∧Take rest (arrX v T' sz' L m') rest'∧0 < sz'∧k
theorem Ovl.mk'{u v:Value}{s j m:Nat}{α:Type}{T sz:Nat}{l:List α}{f:α→List AV}{rest:List Res}{T' sz':Nat}{L:List (List Value)}{m':Nat}{rest':List Res}{k:Prop}(h1:Take o (arrR u T sz l f) rest)(h2:Take rest (arrX v T' sz' L m') rest')(h3:0 < sz')(hk:k) : Ovl o (.ow u) (.os v s j m) k :=
 ⟨u,v,s,j,m,α,T,sz,l,f,rest,T',sz',L,m',rest',rfl,rfl,h1,h2,h3,hk⟩
structure Cvk (q:TK) (i:Int) (M:IntKind→Int→Prop):Prop where
 ok:∃k' r,q= .int k'∧k'.wrap i=r∧M k' r
theorem Cvk.i64{q:TK}{i:Int}{M:IntKind→Int→Prop}(hq:q= .int .i64)(h: -9223372036854775808≤i∧i≤9223372036854775807)(hm:M .i64 i) : Cvk q i M:=⟨.i64,i,hq,wrap_i64 h,hm⟩
theorem Cvk.u8{q:TK}{i:Int}{M:IntKind→Int→Prop}(hq:q= .int .u8)(h:0≤i∧i≤255)(hm:M .u8 i) : Cvk q i M:=⟨.u8,i,hq,wrap_u8 h,hm⟩
theorem Cvk.u64{q:TK}{i:Int}{M:IntKind→Int→Prop}(hq:q= .int .u64)(h:0≤i∧i≤18446744073709551615)(hm:M .u64 i) : Cvk q i M:=⟨.u64,i,hq,by
 simp [IntKind.wrap,IntKind.signed,IntKind.bits];omega,hm⟩
instance (priority:=1100) {w:TypeId} : Sp (Ap1 Γ c d (.convert t w x) ty e o N x (.val (.int kk i))) (Lk (Γ.tt t) fun _=>Lk (Γ.tt w) fun ti=>Cvk ti.kind i fun k' r=>N ((d, .val (.int k' r)) :: e) o):=⟨fun⟨_,h1,_,h2,_,_,hq,hr,hn⟩=>puv1 (fun _ _=>rfl) hn fun _ _ _ h k=>St.convert Γ.ok h1 h2 hq h hr k⟩
end
def bunR(rs:List Res) : Res :=
  ⟨fun h O G=>∃Os,OwnL h G rs Os∧Apart Os∧∀b,O b↔U Os b,
   fun {_ _ _ _} x ⟨Os,h1,h2,h3⟩=>⟨Os,OwnL.stp (fun O' hO'=>x.mono fun b hb=>hb.imp (fun h=>(h3 b).2 ⟨O',hO',h⟩) id) h1,h2,h3⟩,
   fun x ⟨Os,h1,h2,h3⟩=>⟨Os,h1.mono x,h2,h3⟩,
   fun⟨_Os,h1,_,h3⟩ b hb=>let ⟨O,hO,h4⟩:=(h3 b).1 hb;h1.nc O hO b h4⟩
section
variable {h0:Heap} {G0 O0:Nat→Prop} {h:Heap} {G:Nat→Prop} {Os:List (Nat→Prop)} {rs rest:List Res} {O:Nat→Prop}
theorem HpOK.unbun(c:HpOK h0 G0 O0 (bunR rs :: rest) h G (O :: Os)) :∃Os',OwnL h G rs Os'∧HpOK h0 G0 O0 (rs ++ rest) h G (Os' ++ Os):=by
 obtain⟨⟨Os',h1,h2,h3⟩,hrest⟩:=c.own
 have hd:=List.pairwise_cons.1 c.d
 refine⟨Os',h1,h1.app hrest,c.g,c.g0,fun X hX b hb=>?_,List.pairwise_append.2 ⟨h2,hd.2,fun A hA B hB b ha hb=>hd.1 B hB b ((h3 b).2 ⟨A,hA,ha⟩) hb⟩,c.fp⟩
 rcases zV.1 hX with hX|hX
 ·exact c.o O (by simp) b ((h3 b).2 ⟨X,hX,hb⟩)
 ·exact c.o X (by simp [hX]) b hb
theorem HpOK.bun{Os1 Os2:List (Nat→Prop)}(c:HpOK h0 G0 O0 (rs ++ rest) h G (Os1 ++ Os2))(h1:OwnL h G rs Os1)(h2:OwnL h G rest Os2) : HpOK h0 G0 O0 (bunR rs :: rest) h G (U Os1 :: Os2):=by
 obtain⟨d1,d2,d3⟩:=List.pairwise_append.1 c.d
 refine⟨⟨⟨Os1,h1,d1,fun b=>Iff.rfl⟩,h2⟩,c.g,c.g0,fun X hX b hb=>?_,List.pairwise_cons.2 ⟨fun B hB b ⟨A,hA,ha⟩ hb=>d3 A hA B hB b ha hb,d2⟩,c.fp⟩
 rcases List.mem_cons.1 hX with rfl|hX
 ·obtain⟨A,hA,ha⟩:=hb
  exact c.o A (by simp [hA]) b ha
 ·exact c.o X (by simp [hX]) b hb
end
section
variable {Γ:Cx} {k:List KI} {e:EA} {o:List Res} {α:Type} {l:List α} {g:α→Res}
theorem CA.bunTake{y:Code}{i:Nat}{x:α}{rest:List Res}(tk:Take o (bunR (l.map g)) rest)(hx:l[i]?=some x)(h:CA Γ k y e (g x :: bunR ((l.eraseIdx i).map g) :: rest)) : CA Γ k y e o:=by
 refine⟨fun env hh G Os cn=>?_⟩
 obtain⟨O,Os',cn2⟩:=cn.take tk
 obtain⟨Os1,g1,g2⟩:=cn2.hp.unbun
 have hil:=(zS.1 hx).1
 have hsp:l=l.take i ++ x :: l.drop (i+1):=by
  have h9:=List.drop_eq_getElem_cons hil
  rw [(zS.1 hx).2] at h9
  rw [←h9,List.take_append_drop]
 have hrest:=cn2.hp.own.2
 rw [hsp,List.map_append,List.map_cons] at g1
 obtain⟨A,B,rfl,a1,a2⟩:=OwnL.split g1
 match B,a2 with
 | X :: B,⟨b1,b2⟩ =>
  have hp:(A ++ X :: B ++ Os').Perm (X :: ((A ++ B) ++ Os')):=by
   rw [List.append_assoc,List.cons_append]
   exact List.perm_middle.trans (by rw [List.append_assoc])
  have herase:(l.eraseIdx i).map g=(l.take i).map g ++ (l.drop (i+1)).map g:=by rw [List.eraseIdx_eq_take_drop_succ,List.map_append]
  have c3:HpOK Γ.h0 Γ.G0 Γ.O0 (g x :: ((l.eraseIdx i).map g ++ rest)) hh G (X :: ((A ++ B) ++ Os')) :=
   g2.perm ⟨b1,by rw [herase];exact(a1.app b2).app hrest⟩ hp
  have c4:HpOK Γ.h0 Γ.G0 Γ.O0 (((l.eraseIdx i).map g) ++ (g x :: rest)) hh G ((A ++ B) ++ (X :: Os')) :=
   c3.perm (by rw [herase];exact(a1.app b2).app ⟨b1,hrest⟩) List.perm_middle.symm
  have c5:=c4.bun (by rw [herase];exact a1.app b2) ⟨b1,hrest⟩
  have c6:HpOK Γ.h0 Γ.G0 Γ.O0 (g x :: bunR ((l.eraseIdx i).map g) :: rest) hh G (X :: U (A ++ B) :: Os') :=
   c5.perm ⟨b1,c5.own.1,hrest⟩ (List.Perm.swap _ _ _)
  exact h.h env hh G _ ⟨c6,cn.env,cn.nf⟩
theorem CA.bunPush{y:Code}{x:α}{rest1 rest2:List Res}(tk1:Take o (bunR (l.map g)) rest1)(tk2:Take rest1 (g x) rest2)(h:CA Γ k y e (bunR ((l ++ [x]).map g) :: rest2)) : CA Γ k y e o:=by
 refine⟨fun env hh G Os cn=>?_⟩
 obtain⟨O,Os',cn2⟩:=cn.take tk1
 obtain⟨X,Os2,r1,r2,r3⟩:=tk2.own cn2.hp.own.2
 have c2:HpOK Γ.h0 Γ.G0 Γ.O0 (bunR (l.map g) :: g x :: rest2) hh G (O :: X :: Os2):=cn2.hp.perm ⟨cn2.hp.own.1,r1,r2⟩ (List.Perm.cons O r3)
 obtain⟨A,g1,g2⟩:=c2.unbun
 have c3:HpOK Γ.h0 Γ.G0 Γ.O0 ((l.map g ++ [g x]) ++ rest2) hh G ((A ++ [X]) ++ Os2):=by
  rw [List.append_assoc,List.append_assoc];exact g2
 have c4:=c3.bun (g1.app (r1:=l.map g) (r2:= [g x]) ⟨r1,trivial⟩) r2
 rw [show l.map g ++ [g x]=(l ++ [x]).map g by simp] at c4
 exact h.h env hh G _ ⟨c4,cn.env,cn.nf⟩
theorem CA.bunPut{y:Code}{i:Nat}{x:α}{rest1 rest2:List Res}(tk1:Take o (bunR ((l.eraseIdx i).map g)) rest1)(tk2:Take rest1 (g x) rest2)(hi:i < l.length)(h:CA Γ k y e (bunR ((l.set i x).map g) :: rest2)) : CA Γ k y e o:=by
 refine⟨fun env hh G Os cn=>?_⟩
 obtain⟨O,Os',cn2⟩:=cn.take tk1
 obtain⟨X,Os2,r1,r2,r3⟩:=tk2.own cn2.hp.own.2
 have c2:HpOK Γ.h0 Γ.G0 Γ.O0 (bunR ((l.eraseIdx i).map g) :: g x :: rest2) hh G (O :: X :: Os2):=cn2.hp.perm ⟨cn2.hp.own.1,r1,r2⟩ (List.Perm.cons O r3)
 obtain⟨A,g1,g2⟩:=c2.unbun
 have herase:(l.eraseIdx i).map g=(l.take i).map g ++ (l.drop (i+1)).map g:=by rw [List.eraseIdx_eq_take_drop_succ,List.map_append]
 have hset:(l.set i x).map g=(l.take i).map g ++ g x :: (l.drop (i+1)).map g:=by
  rw [List.set_eq_take_append_cons_drop,if_pos hi,List.map_append,List.map_cons]
 rw [herase] at g1 g2
 obtain⟨B,C,rfl,b1,b2⟩:=OwnL.split g1
 have hp:(B ++ C ++ X :: Os2).Perm ((B ++ X :: C) ++ Os2):=by
  rw [List.append_assoc,List.append_assoc,List.cons_append]
  exact List.Perm.append_left B List.perm_middle
 have c3:HpOK Γ.h0 Γ.G0 Γ.O0 ((l.set i x).map g ++ rest2) hh G ((B ++ X :: C) ++ Os2):=g2.perm (by rw [hset];exact OwnL.app (OwnL.app b1 (show OwnL hh G (g x :: (l.drop (i+1)).map g) (X :: C) from⟨r1,b2⟩)) r2) hp
 have c4:=c3.bun (by rw [hset];exact OwnL.app b1 (show OwnL hh G (g x :: (l.drop (i+1)).map g) (X :: C) from⟨r1,b2⟩)) r2
 exact h.h env hh G _ ⟨c4,cn.env,cn.nf⟩
theorem CA.bunNil{y:Code}(g:α→Res)(h:CA Γ k y e (bunR (([]:List α).map g) :: o)) : CA Γ k y e o:=by
 refine⟨fun env hh G Os cn=>?_⟩
 have c4:HpOK Γ.h0 Γ.G0 Γ.O0 (bunR (([]:List α).map g) :: o) hh G (U [] :: Os):=HpOK.bun (rs:= []) (Os1:= []) cn.hp trivial cn.hp.own
 exact h.h env hh G _ ⟨c4,cn.env,cn.nf⟩
end

structure Sm (w w':World):Prop where
 os:w'.os=w.os
 tape:w'.tape=w.tape
 output:w'.output=w.output
 drawn:w.drawn≤w'.drawn
 size:w.heap.size≤w'.heap.size
theorem Sm.refl(w:World) : Sm w w:=⟨rfl,rfl,rfl,Nat.le_refl _,Nat.le_refl _⟩
theorem Sm.trans{a b c:World}(h:Sm a b)(k:Sm b c) : Sm a c:=⟨k.os.trans h.os,k.tape.trans h.tape,k.output.trans h.output,Nat.le_trans h.drawn k.drawn,Nat.le_trans h.size k.size⟩
theorem Same.sm{w w':World}(h:Same w w') : Sm w w':=⟨h.os,h.tape,h.output,h.drawn,h.size⟩
theorem Sm.put(w:World)(l:Nat)(o:Obj) : Sm w (w.putObj l o):=⟨rfl,rfl,rfl,Nat.le_refl _,by simp⟩

structure IterG (st:Bool) (P:Program) (gf:FuncId) (lb:List Value) (X:Nat→List Value→Prop) (N:Nat) (C:Heap→Prop):Prop where
 run:∀(l:Nat) (J Jx:Nat→Heap→Prop) (w:World),(∀i h,J i h→C h)→(∀i h1 h2,J i h1→Stp ([]:List Nat) h1 h2→J i h2)→(st=true→∀h,¬J N h)→
  (∀i x w1,X i x→J i w1.heap→Sm w w1→YieldAt Fence.wide 0 P l x.toArray w1 fun e w'=>Sm w1 w'∧((e= .returned (.bool true)∧J (i+1) w'.heap)∨(e= .returned (.bool false)∧Jx (i+1) w'.heap)))→
  J 0 w.heap→Calls P gf ((.func (.yield l) #[] #[]) :: lb).toArray w fun e w'=>(∃v,e= .returned v)∧Sm w w'∧(J N w'.heap∨∃i,i≤N∧Jx i w'.heap)
abbrev IterH (P:Program) (gf:FuncId) (lb:List Value) (xs:List (List Value)) (C:Heap→Prop):Prop:=IterG false P gf lb (fun i x=>xs[i]?=some x) xs.length C

def parE : List Tmp→List Value→Env→Env
 | p :: ps,v :: vs,e=>parE ps vs ((p,v) :: e)
 | _,_,e=>e
theorem Agree.par{n:Nat}{ds:List Deferred} :∀(ps:List Tmp) (vs:List Value) (e:Env) (t:Array Value),(∀p∈ps,p < n)→Agree n e { tmps:=t,defers:=ds }→
  Agree n (parE ps vs e) { tmps:=(ps.zip vs).foldl (fun t p=>t.setIfInBounds p.1 p.2) t,defers:=ds }
 | [],_,_,_,_,h=>by simpa [parE] using h
 | _ :: _,[],_,_,_,h=>by simpa [parE] using h
 | p :: ps,v :: vs,e,t,hp,h=>by
  simp only [parE,List.zip_cons_cons,List.foldl_cons]
  refine Agree.par ps vs _ _ (fun q hq=>hp q (by simp [hq])) ?_
  exact h.put (d:=some p) (by simpa [dOK] using hp p (by simp)) v

theorem run_enter{P:Program}{rd:Option Nat}{B:Option Nat}{ds:List Deferred}{w:World}(hB:B.isSome=true)(hr:Rnd rd w.heap)(hf:Fr B ds w.heap)(fn:FuncId)(tmps:Array Value)(ps:Array Tmp)(assign body:Code) :
  ∃l mark W1 D,(Instr.enterLoop fn tmps ps assign body rd).run P w= .ok (l,mark) W1∧w.heap.size≤l∧W1.heap[l]?=some (.loop { state:= .ready,pending:=none,fn:=fn,tmps:=tmps,params:=ps,assign:=assign,body:=body,defers:=D })∧
   Same w W1∧(∀k,k < w.heap.size→W1.heap[k]?=w.heap[k]?)∧Fr B (mark ++ ds) W1.heap:=by
 cases rd with
 | none =>
  have hs:Same w ((w.alloc (.deferred (some []))).alloc (.loop { state:= .ready,pending:=none,fn,tmps,params:=ps,assign,body,defers:=w.heap.size })):=(Same.of_push (w':=w.alloc (.deferred (some []))) rfl).trans (Same.of_push rfl)
  have hold:∀k,k < w.heap.size→((w.heap.push (.deferred (some []))).push (.loop { state:= .ready,pending:=none,fn,tmps,params:=ps,assign,body,defers:=w.heap.size }))[k]?=w.heap[k]?:=fun k hk=>by
   rw [Array.getElem?_push,if_neg (by simp;omega),Array.getElem?_push,if_neg (by omega)]
  have hd:((w.heap.push (.deferred (some []))).push (.loop { state:= .ready,pending:=none,fn,tmps,params:=ps,assign,body,defers:=w.heap.size }))[w.heap.size]?=some (.deferred (some [])):=by
   rw [Array.getElem?_push,if_neg (by simp),Array.getElem?_push,if_pos rfl]
  refine⟨_,_,_,w.heap.size,run_enterLoop_outer fn tmps ps assign body,by omega, ?_,hs,hold,⟨fun b hb=>Nat.le_trans (hf.le b hb) hs.size, ?_,fun d hm=>?_⟩⟩
  ·show((w.heap.push _).push _)[w.heap.size+1]?=_
   rw [Array.getElem?_push,if_pos (by simp)]
  ·refine List.nodup_cons.2 ⟨fun hm=>?_,hf.nd⟩
   obtain⟨D,_,h1,_,_,h3⟩:=hf.mks _ hm
   have hD:=(zA.1 h3).1
   simp only [Deferred.mk.injEq,Target.collected.injEq] at h1
   omega
  ·rcases List.mem_cons.1 hm with rfl|hm
   ·obtain⟨b,rfl⟩:=Option.isSome_iff_exists.1 hB
    exact⟨_,b,rfl,rfl,hf.le b rfl,hd⟩
   ·obtain⟨D,b,h1,h0,h2,h3⟩:=hf.mks _ hm
    exact⟨D,b,h1,h0,h2,(hold D (zA.1 h3).1).trans h3⟩
 | some l0 =>
  obtain⟨r,hr⟩:=hr l0 rfl
  have hs:Same w (w.alloc (.loop { state:= .ready,pending:=none,fn,tmps,params:=ps,assign,body,defers:=r.defers })):=Same.of_push rfl
  refine⟨w.heap.size,[],w.alloc (.loop { state:= .ready,pending:=none,fn,tmps,params:=ps,assign,body,defers:=r.defers }),r.defers, ?_,Nat.le_refl _,World.alloc_heap_new w _,hs,fun k hk=>?_,⟨fun b hb=>Nat.le_trans (hf.le b hb) hs.size,hf.nd,fun d hm=>?_⟩⟩
  ·unfold Instr.enterLoop
   simp only [Sem.run_bind,run_getLoop hr,run_newObj_alloc,Result.andThen,Sem.run_pure]
  ·show(w.heap.push _)[k]?=_
   rw [Array.getElem?_push,if_neg (by omega)]
  ·obtain⟨D,b,h1,h0,h2,h3⟩:=hf.mks _ hm
   exact⟨D,b,h1,h0,h2,hs.ctl D _ h3 rfl⟩

section
variable {P:Program} {n:Nat} {R:Env→Heap→Prop} {k:List KI} {env:Env} {h:Heap}

def roundQ(I:Heap→Prop)(E:Exit→Heap→Prop) : Exit→Env→Heap→Prop
 | .normal,_,h=>I h
 | x,_,h=>E x h
def jumpQ(E:Exit→Heap→Prop) : Code→Heap→Prop
 | .ret,h=>E .ret h
 | .exit i,h=>E (.exit i) h
 | .goto i,h=>E (.goto i) h
 | _,_=>False

theorem Shut.put{B l:Nat}{w:World}{o o':Obj}(hl:w.heap[l]?=some o)(ho:isCtl o=true)(hb:B≤l) : Shut B w.heap (w.putObj l o').heap :=
 ⟨by simp,fun k _=>by
  by_cases hk:k=l
  ·subst hk;exact .inr ⟨hb,o,hl,ho⟩
  ·exact .inl (World.putObj_heap_other hk)⟩

theorem CW.rangeFunc{st:Bool}{g:Operand}{ps:Array Tmp}{asg body:Code}{gf:FuncId}{lb:List Value}{X:Nat→List Value→Prop}{N:Nat}{C:Heap→Prop}(hg:ev env g=some (.func (.func gf) #[] lb.toArray))(he:∀args w,(callFunc gf args).run P w= .ok (.enter gf args) w)
    (hit:IterG st P gf lb X N C) (hps:∀i x,X i x→x.length=ps.size) (hpn:∀p∈ps.toList,p < n) (I:Nat→Heap→Prop) (E:Exit→Heap→Prop)
    (hI:∀i h1 h2,Shut h.size h1 h2→I i h1→I i h2) (hE:∀x h1 h2,Shut h.size h1 h2→E x h1→E x h2) (hC:∀i h',I i h'→C h') (hI2:∀i h1 h2,I i h1→Stp ([]:List Nat) h1 h2→I i h2) (hst:st=true→∀h',¬I N h') (h0:I 0 h)
    (hbody:∀i x h',X i x→I i h'→CW P n asg (fun e env1 h1=>e= .normal∧∀h2,Shut h.size h1 h2→CW P n body (roundQ (I (i+1)) E) env1 h2) (parE ps.toList x env) h')
    (hdone:∀h',I N h'→PK P n R k .normal env h') (hret:∀h',E .ret h'→PK P n R k .ret env h') (hex:∀i h',E (.exit i) h'→PK P n R k (.exit i) env h') (hgo:∀i h',¬E (.goto i) h') :
    CW P n (.rangeFunc g ps asg body) (PK P n R k) env h:=by
  refine⟨fun rd m B a w ha hf hr hw hB=>wpIn_rangeFunc fun fn hfn=>?_⟩
  subst hw
  obtain⟨l,mark,W1,D,hent,hl,hL1,hs1,hold,hf1⟩:=run_enter (P:=P) (hB rfl) hr hf fn a.tmps ps asg body
  have hsh1:Shut w.heap.size w.heap W1.heap:=⟨hs1.size,fun k hk=> .inl (hold k hk)⟩
  refine⟨l,mark,W1,{ target:= .fn (.func gf) lb.toArray,args:=#[.func (.yield l) #[] #[]] },W1,gf,((.func (.yield l) #[] #[]) :: lb).toArray,W1,hent, ?_,fun _ _=>trivial, ?_,fun h=>(by cases h), ?_⟩
  · simp only [resolve,ha.ev hg]
    simp [go_sem]
  · simp [invoke,go_sem,he]
  · -- what stands through the rounds: the loop's record, and all else that loops keep
    let rec_:LoopState→Option Code→Loop:=fun st pe=>{ state:=st,pending:=pe,fn:=fn,tmps:=a.tmps,params:=ps,assign:=asg,body:=body,defers:=D }
    let Kp:Heap→Prop:=fun h'=>W1.heap.size≤h'.size∧∀q o,q≠l→W1.heap[q]?=some o→isCtl o=true→h'[q]?=some o
    have hKput:∀(W:World) (o:Obj),Kp W.heap→Kp (W.putObj l o).heap:=fun W o hk=>⟨by simpa using hk.1,fun q o' hq h1 h2=>(World.putObj_heap_other hq).trans (hk.2 q o' hq h1 h2)⟩
    have hKsame:∀W W':World,Same W W'→Kp W.heap→Kp W'.heap:=fun W W' hs hk=>⟨Nat.le_trans hk.1 hs.size,fun q o hq h1 h2=>hs.ctl q o (hk.2 q o hq h1 h2) h2⟩
    have hfin:∀(W:World),Sm W1 W→Kp W.heap→Same w W∧Fr B (mark ++ a.defers) W.heap:=fun W hs hk =>
      ⟨⟨hs.os.trans hs1.os,hs.tape.trans hs1.tape,hs.output.trans hs1.output,Nat.le_trans hs1.drawn hs.drawn,Nat.le_trans hs1.size hk.1,fun q o h1 h2=>hk.2 q o (by have:=(zA.1 h1).1;omega) (hs1.ctl q o h1 h2) h2⟩,
       ⟨fun b hb=>Nat.le_trans (hf1.le b hb) hk.1,hf1.nd,fun d hd=>by
          obtain⟨D',b,h1,h0,h2,h3⟩:=hf1.mks d hd
          exact⟨D',b,h1,h0,h2,hk.2 D' _ (fun e=>by subst e;rw [hL1] at h3;cases h3) h3 rfl⟩⟩⟩
    have hag:Agree n env { a with defers:=mark ++ a.defers }:=⟨ha.size,ha.val⟩
    have hcall:=hit.run l (fun i h'=>h'[l]?=some (.loop (rec_ .ready none))∧Kp h'∧I i h') (fun _ h'=>∃c,h'[l]?=some (.loop (rec_ .done (some c)))∧Kp h'∧jumpQ E c h') W1 (fun i h' hj=>hC i h' hj.2.2)
      (fun i h1 h2 ⟨j1,j2,j3⟩ hs=>by
        have hget:∀(k:Nat) (o:Obj),h1[k]?=some o→h2[k]?=some o:=fun k o hk=>(hs.same k (zA.1 hk).1 (by simp)).trans hk
        exact⟨hget _ _ j1,⟨Nat.le_trans j2.1 hs.size,fun q o hq g1 g2=>hget _ _ (j2.2 q o hq g1 g2)⟩,hI2 i h1 h2 j3 hs⟩)
      (fun h9 h' hj=>hst h9 h' hj.2.2) ?_
      ⟨hL1,⟨Nat.le_refl _,fun _ _ _ h _=>h⟩,hI 0 _ _ hsh1 h0⟩
    · have h2:CallsIn (wide rd) (m - 1) P gf ((.func (.yield l) #[] #[]) :: lb).toArray W1 _:=(callsIn_wide (n:=m - 1)).2 (hcall.mono (R':=rangePost (wide rd) m P l (lift n B w (PK P n R k)) { a with defers:=mark ++ a.defers }) ?_)
      · exact h2
      rintro e W2 ⟨⟨v,rfl⟩,hs2,(⟨hl2,hk2,hi2⟩|⟨i,hi,c,hl2,hk2,hi2⟩)⟩
      · have hsh:Shut w.heap.size W2.heap (W2.putObj l (.loop { rec_ .ready none with state:= .exhausted })).heap:=Shut.put hl2 rfl hl
        obtain⟨g1,g2⟩:=hfin _ (hs2.trans (Sm.put W2 l (.loop { rec_ .ready none with state:= .exhausted }))) (hKput W2 _ hk2)
        exact⟨none,_,run_endLoop (P:=P) hl2 (by simp [rec_]),g1,g2,env,hag,hdone _ (hI _ _ _ hsh hi2)⟩
      · have hsh:Shut w.heap.size W2.heap (W2.putObj l (.loop { rec_ .done (some c) with state:= .exhausted })).heap:=Shut.put hl2 rfl hl
        obtain⟨g1,g2⟩:=hfin _ (hs2.trans (Sm.put W2 l (.loop { rec_ .done (some c) with state:= .exhausted }))) (hKput W2 _ hk2)
        refine⟨some c,_,run_endLoop (P:=P) hl2 (by simp [rec_]), ?_⟩
        show c.wpIn (wide rd) m P _ _ _
        cases c <;> simp only [jumpQ] at hi2
        case ret=>exact wpIn_ret ⟨g1,g2,env,hag,hret _ (hE _ _ _ hsh hi2)⟩
        case exit i=>exact wpIn_exit ⟨g1,g2,env,hag,hex i _ (hE _ _ _ hsh hi2)⟩
        case goto i=>exact absurd hi2 (hgo i _)
    · -- one round
      rintro i x w1 hx ⟨hl2,hk2,hi2⟩ hsm
      have hlen:x.toArray.size=(rec_ .ready none).params.size:=by simpa [rec_] using hps i x hx
      have hag2:Agree n (parE ps.toList x env) { tmps:=(ps.zip x.toArray).foldl (fun t p=>t.setIfInBounds p.1 p.2) a.tmps,defers:= [] }:=by
        have:=Agree.par (ds:= []) ps.toList x env a.tmps hpn ⟨ha.size,ha.val⟩
        have e9:(ps.zip x.toArray).foldl (fun t p=>t.setIfInBounds p.1 p.2) a.tmps=(ps.toList.zip x).foldl (fun t p=>t.setIfInBounds p.1 p.2) a.tmps:=by cases ps;simp
        rw [e9];exact this
      have hfr0:∀H:Heap,Fr (some 0) [] H:=fun H=>⟨fun b hb=>by cases hb;exact zZ _,List.nodup_nil,fun d hd=>by cases hd⟩
      refine⟨fn,_,asg,body,run_yield (P:=P) hl2 hlen,roundIn_of_wpIn trivial (wpIn_mono ((hbody i x _ hx hi2).run (some l) 0 (some 0) _ w1 hag2 (hfr0 _) (fun l' hl'=>by cases hl';exact⟨_,hl2⟩) rfl fun _=>rfl) fun ea aa wa hla=>?_)⟩
      have hla2:ea= .normal∧Same w1 wa∧Fr (some 0) aa.defers wa.heap∧∃env1,Agree n env1 aa∧∀h2,Shut w.heap.size wa.heap h2→CW P n body (roundQ (I (i+1)) E) env1 h2:=by
        cases ea <;> simp only [lift] at hla
        case normal=>obtain⟨q1,q2,e1,q3,_,q4⟩:=hla;exact⟨rfl,q1,q2,e1,q3,q4⟩
        all_goals(obtain⟨_,_,_,_,q,_⟩:=hla;cases q)
      obtain⟨rfl,hsa,hfa,env1,haga,hbo⟩:=hla2
      have hla3:=hsa.ctl l _ hl2 rfl
      have hka:=hKsame _ _ hsa hk2
      refine⟨_,run_beginRound hla3 rfl, ?_⟩
      have hlt:=(zA.1 hla3).1
      have hl3:(wa.putObj l (.loop { rec_ .ready none with state:= .busy })).heap[l]?=some (.loop { rec_ .ready none with state:= .busy }):=World.putObj_heap_same hlt
      have hrun:=(hbo _ (Shut.put (o':= .loop { rec_ .ready none with state:= .busy }) hla3 rfl hl)).run (some l) 0 (some 0) aa (wa.putObj l (.loop { rec_ .ready none with state:= .busy })) haga ⟨fun b hb=>by cases hb;exact zZ _,hfa.nd,fun d hd=>by
          obtain⟨D',b,r1,r0,r2,r3⟩:=hfa.mks d hd
          exact⟨D',b,r1,r0,r2,(World.putObj_heap_other (fun e=>by subst e;rw [hla3] at r3;cases r3)).trans r3⟩⟩ (fun l' hl'=>by cases hl';exact⟨_,hl3⟩) rfl fun _=>rfl
      refine wpIn_mono hrun fun e a2 w2 hl4=>?_
      have fin:∀(jump:Option Code),Same (wa.putObj l (.loop { rec_ .ready none with state:= .busy })) w2→
          (Instr.endRound l jump).run P w2= .ok (.bool jump.isNone) (w2.putObj l (.loop (rec_ (if jump.isNone then .ready else .done) jump)))∧Shut w.heap.size w2.heap (w2.putObj l (.loop (rec_ (if jump.isNone then .ready else .done) jump))).heap∧
          (w2.putObj l (.loop (rec_ (if jump.isNone then .ready else .done) jump))).heap[l]?=some (.loop (rec_ (if jump.isNone then .ready else .done) jump))∧Kp (w2.putObj l (.loop (rec_ (if jump.isNone then .ready else .done) jump))).heap∧
          Sm w1 (w2.putObj l (.loop (rec_ (if jump.isNone then .ready else .done) jump))):=fun jump hs=>by
        have h9:=hs.ctl l _ hl3 rfl
        exact⟨run_endRound (P:=P) jump h9,Shut.put h9 rfl hl,World.putObj_heap_same (zA.1 h9).1,hKput _ _ (hKsame _ _ hs (hKput _ _ hka)),hsa.sm.trans ((Sm.put _ _ _).trans (hs.sm.trans (Sm.put _ _ _)))⟩
      cases e with
      | normal =>
        obtain⟨hs,_,_,_,hq⟩:=hl4
        obtain⟨g1,g2,g3,g4,g5⟩:=fin none hs
        exact⟨_,_,g1,g5, .inl ⟨rfl,g3,g4,hI _ _ _ g2 hq⟩⟩
      | ret =>
        obtain⟨hs,_,_,_,hq⟩:=hl4
        obtain⟨g1,g2,g3,g4,g5⟩:=fin (some .ret) hs
        exact⟨_,_,g1,g5, .inr ⟨rfl,_,g3,g4,hE _ _ _ g2 hq⟩⟩
      | exit q =>
        obtain⟨hs,_,_,_,hq⟩:=hl4
        obtain⟨g1,g2,g3,g4,g5⟩:=fin (some (.exit q)) hs
        exact⟨_,_,g1,g5, .inr ⟨rfl,_,g3,g4,hE _ _ _ g2 hq⟩⟩
      | goto q =>
        obtain⟨hs,_,_,_,hq⟩:=hl4
        exact absurd hq (hgo q _)
      | panic c=>exact hl4.elim
      | outgrown=>exact hl4.elim
end

structure ItG (st:Bool) (P:Program) (gf:FuncId) (caps:List AV) (X:Nat→List AV→Prop) (N:Nat):Prop where
 run:∀h G vs,(∀b,G b→b < h.size)→RepT h G vs caps→IterG st P gf vs (fun i y=>∃x,X i x∧RepT h G y x) N (fun h'=>FPx G h h')
abbrev ItA (P:Program) (gf:FuncId) (caps:List AV) (xs:List (List AV)):Prop:=ItG false P gf caps (fun i x=>xs[i]?=some x) xs.length
theorem ItA.of{P:Program}{gf:FuncId}{caps:List AV}{xs:List (List AV)}(hc:∀h G vs,(∀b,G b→b < h.size)→RepT h G vs caps→∃ys:List (List Value),ys.length=xs.length∧(∀(i:Nat) (y:List Value) (x:List AV),ys[i]?=some y→xs[i]?=some x→RepT h G y x)∧IterH P gf vs ys (fun h'=>FPx G h h')) : ItA P gf caps xs :=
 ⟨fun h G vs h1 h2=>by
  obtain⟨ys,hlen,hys,hit⟩:=hc h G vs h1 h2
  refine⟨fun l J Jx w g1 g2 g3 g4 g5=>?_⟩
  rw [←hlen] at g3 ⊢
  refine hit.run l J Jx w g1 g2 g3 (fun i y w1 hy=>?_) g5
  obtain⟨x,hx⟩:∃x,xs[i]?=some x:=⟨_,zE (by rw [←hlen];exact(zS.1 hy).1)⟩
  exact g4 i y w1 ⟨x,hx,hys i y x hy hx⟩⟩
def parA : List Tmp→List AV→EA→EA
 | p :: ps,v :: vs,e=>parA ps vs ((p,v) :: e)
 | _,_,e=>e
theorem look_par{h:Heap}{G:Nat→Prop} :∀(ps:List Tmp) (vs:List Value) (asx:List AV) (e:EA) (env:Env),RepT h G vs asx→(∀t a,lookA e t=some a→∃v,look env t=some v∧a.R h G v)→∀t a,lookA (parA ps asx e) t=some a→∃v,look (parE ps vs env) t=some v∧a.R h G v
 | [],_,_,_,_,_,he=>by simpa [parA,parE] using he
 | _ :: _,[],[],_,_,_,he=>by simpa [parA,parE] using he
 | p :: ps,v :: vs,a :: asx,e,env,⟨h1,h2⟩,he=>by
  simp only [parA,parE]
  refine look_par ps vs asx _ _ h2 fun t b hb=>?_
  rw [lookA_cons] at hb
  rw [look_cons]
  by_cases hk:p=t
  ·rw [if_pos hk] at hb ⊢;cases hb;exact⟨v,rfl,h1⟩
  ·rw [if_neg hk] at hb ⊢;exact he t b hb
theorem HpOK.grow{h0:Heap}{G0 O0:Nat→Prop}{own:List Res}{h h2:Heap}{G:Nat→Prop}{Os:List (Nat→Prop)}(c:HpOK h0 G0 O0 own h G Os)(s:Stp ([]:List Nat) h h2) : HpOK h0 G0 O0 own h2 G Os:=by
 have hx:∀S,FPx S h h2:=fun S=>⟨s.size,fun b _ hb=>s.same b hb (by simp)⟩
 have h1:=c.fp.size
 have h3:=s.size
 refine⟨OwnL.stp (fun O _=>hx _) c.own,fun b hb=>⟨by have:=(c.g b hb).1;omega,(c.g b hb).2.imp id fun q=>⟨q.1,q.2.eq (s.same b (c.g b hb).1 (by simp))⟩⟩,c.g0,fun O hO b hb=>⟨by have:=(c.o O hO b hb).1;omega,(c.o O hO b hb).2⟩,c.d,⟨by omega,fun b hb hl=>?_⟩⟩
 rw [s.same b (by omega) (by simp)]
 exact c.fp.same b hb hl
def rdI(h0:Heap)(G0 O0:Nat→Prop)(M:Exit→List Res→Prop) : Exit→Env→Heap→Prop:=fun x _ h=>∃own G Os,M x own∧HpOK h0 G0 O0 own h G Os
section
variable {Γ:Cx} {k:List KI} {e:EA} {o:List Res}
theorem PA.rd{x:Exit}{M:Exit→List Res→Prop}(o':List Res)(hs:Subl o o')(hm:M x o') : PA Γ (.rd (rdI Γ.h0 Γ.G0 Γ.O0 M) :: k) x e o :=
 ⟨fun _ _ G _ cn=>PK.rd (let ⟨Os',c,_⟩:=cn.hp.sub hs;⟨o',G,Os',hm,c⟩)⟩
theorem PA.brk(h0g:∀b,Γ.G0 b→b < Γ.h0.size)(hfp:Γ.fp.n=none)(h:PA Γ k .normal e o) : PA Γ (.brk Γ.h0.size :: k) .normal e o :=
 ⟨fun env _hh G Os cn=>PK.brk fun h' hs=>h.h env h' G Os ⟨cn.hp.shut h0g hs,fun t a ha=>let ⟨v,h1,h2⟩:=cn.env t a ha;⟨v,h1,a.stp (cn.hp.shutF h0g hs) h2⟩,FpOK.none hfp⟩⟩
def rdM(J:List Res→Prop)(E:Exit→List Res→Prop) : Exit→List Res→Prop
 | .normal,o=>J o
 | x,o=>E x o
theorem CA.rangeG{st:Bool}{P:Program}{tt:Nat→Option TI}{en:Nat→Bool}{ok:PgOK P tt en}{T:Nat→Ord×(Nat→Cls)}{n:Nat}{rs:Array ResultVar}{K:AV→List Res→Prop}{h0:Heap}{G0 O0:Nat→Prop}{g:Operand}{ps:Array Tmp}{asg body:Code}{gf:FuncId}{caps:List AV}{X:Nat→List AV→Prop}{N:Nat}
  (hg:evA e g=some (.fn gf caps)) (he:en gf=true) (hit:ItG st P gf caps X N) (hps:∀i x,X i x→x.length=ps.size) (hpn:(ps.toList.all (Nat.blt · n))=true) (J:Nat→List Res→Prop) (E:Exit→List Res→Prop) (hst:st=true→∀o',¬J N o') (hj:J 0 o)
  (hb:∀i x o',X i x→J i o'→∀h0 G0 O0,(∀b,G0 b→b < h0.size)→CA ⟨P,tt,en,ok,T,n,rs,K,h0,G0,O0,⟨none⟩⟩ [.brk h0.size, .code body, .rd (rdI h0 G0 O0 (rdM (J (i+1)) E))] asg (parA ps.toList x e) o')
  (hd:∀o',J N o'→PA ⟨P,tt,en,ok,T,n,rs,K,h0,G0,O0,⟨none⟩⟩ k .normal e o') (hret:∀o',E .ret o'→PA ⟨P,tt,en,ok,T,n,rs,K,h0,G0,O0,⟨none⟩⟩ k .ret e o') (hex:∀i o',E (.exit i) o'→PA ⟨P,tt,en,ok,T,n,rs,K,h0,G0,O0,⟨none⟩⟩ k (.exit i) e o') (hgo:∀i o',¬E (.goto i) o') :
  CA ⟨P,tt,en,ok,T,n,rs,K,h0,G0,O0,⟨none⟩⟩ k (.rangeFunc g ps asg body) e o:=by
 refine⟨fun env h G Os cn=>?_⟩
 obtain⟨v,g1,vs,rfl,g2⟩:=cn.get hg
 have hit2:=hit.run h G vs (fun b hb=>(cn.hp.g b hb).1) g2
 have hp0:HpOK h0 G0 O0 (o ++ []) h G (Os ++ []):=by simpa using cn.hp
 have hGl:∀b,G b→b < h.size:=fun b hb=>(cn.hp.g b hb).1
 have hGU:∀b,G b→¬U Os b:=fun b hb ⟨O,hO,ho⟩=>(cn.hp.o O hO b ho).2.2 hb
 have inn:HpOK h G (U Os) o h G Os:=hp0.inner cn.hp.own
 have back:∀h' o' G' Os',HpOK h G (U Os) o' h' G' Os'→Con ⟨P,tt,en,ok,T,n,rs,K,h0,G0,O0,⟨none⟩⟩ ⟨e,o'⟩ env h' G' Os':=fun h' o' G' Os' c'=>by
  obtain⟨k1,k2,k3⟩:=hp0.call (r2:= []) (o2:= []) trivial c'
  refine⟨by simpa using k1,fun t a ha=>?_,FpOK.none rfl⟩
  obtain⟨u,h1,h2⟩:=cn.env t a ha
  exact⟨u,h1,a.mono k3 (a.stp k2 h2)⟩
 refine CW.rangeFunc g1 (fun args w=>ok.entOK gf he args w) hit2 (fun i y ⟨x,hx,hr⟩=>by rw [hr.len];exact hps i x hx) (fun p hp=>by simpa using List.all_eq_true.1 hpn p hp)
  (fun i h'=>∃o' G' Os',J i o'∧HpOK h G (U Os) o' h' G' Os') (fun x h'=>∃o' G' Os',E x o'∧HpOK h G (U Os) o' h' G' Os')
  (fun i h1 h2 hs ⟨o',G',Os',a1,a2⟩=>⟨o',G',Os',a1,a2.shut hGl hs⟩) (fun i h1 h2 hs ⟨o',G',Os',a1,a2⟩=>⟨o',G',Os',a1,a2.shut hGl hs⟩)
  (fun i h' ⟨o',G',Os',a1,a2⟩=>a2.fp.mono hGU) (fun i h1 h2 ⟨o',G',Os',a1,a2⟩ hs=>⟨o',G',Os',a1,a2.grow hs⟩) (fun h9 h' ⟨o',G',Os',a1,a2⟩=>hst h9 o' a1) ⟨o,G,Os,hj,inn⟩ ?_ ?_ ?_ ?_ ?_
 ·rintro i y h' ⟨x,hx,hyx⟩ ⟨o',G',Os',a1,a2⟩
  have hc:=back h' o' G' Os' a2
  have hr:RepT h' G' y x:=(hyx.stp (a2.fp.mono hGU)).mono a2.g0
  have hin:HpOK h G (U Os) o' h' G' Os':=a2
  have hrd:∀x' e' h2,PK P n (endR ⟨P,tt,en,ok,T,n,rs,K,h,G,U Os,⟨none⟩⟩) [.rd (rdI h G (U Os) (rdM (J (i+1)) E))] x' e' h2→roundQ (fun h'=>∃o' G' Os',J (i+1) o'∧HpOK h G (U Os) o' h' G' Os') (fun x h'=>∃o' G' Os',E x o'∧HpOK h G (U Os) o' h' G' Os') x' e' h2:=fun x' e' h2 hq=>by
   have hq:rdI h G (U Os) (rdM (J (i+1)) E) x' e' h2:=by
    unfold PK at hq;cases x' <;> exact hq
   obtain⟨o2,G2,Os2,b1,b2⟩:=hq
   cases x' <;> exact⟨o2,G2,Os2,b1,b2⟩
  refine CW.mono (fun x' e' h2 hq=>?_) ((hb i x o' hx a1 h G (U Os) hGl).h (parE ps.toList y env) h' G' Os' ⟨hin,look_par ps.toList y x e env hr hc.env,FpOK.none rfl⟩)
  unfold PK at hq
  cases x' <;> simp only at hq
  case normal =>
   refine⟨rfl,fun h3 hs=>?_⟩
   have:=hq h3 hs
   unfold PK at this
   exact CW.mono hrd this
 ·rintro h' ⟨o',G',Os',a1,a2⟩
  exact(hd o' a1).h env h' G' Os' (back h' o' G' Os' a2)
 ·rintro h' ⟨o',G',Os',a1,a2⟩
  exact(hret o' a1).h env h' G' Os' (back h' o' G' Os' a2)
 ·rintro i h' ⟨o',G',Os',a1,a2⟩
  exact(hex i o' a1).h env h' G' Os' (back h' o' G' Os' a2)
 ·rintro i h' ⟨o',G',Os',a1,a2⟩
  exact hgo i o' a1
theorem CA.range{P:Program}{tt:Nat→Option TI}{en:Nat→Bool}{ok:PgOK P tt en}{T:Nat→Ord×(Nat→Cls)}{n:Nat}{rs:Array ResultVar}{K:AV→List Res→Prop}{h0:Heap}{G0 O0:Nat→Prop}{g:Operand}{ps:Array Tmp}{asg body:Code}{gf:FuncId}{caps:List AV}{xs:List (List AV)}
  (hg:evA e g=some (.fn gf caps)) (he:en gf=true) (hit:ItA P gf caps xs) (hps:∀x∈xs,x.length=ps.size) (hpn:(ps.toList.all (Nat.blt · n))=true) (J:Nat→List Res→Prop) (E:Exit→List Res→Prop) (hj:J 0 o)
  (hb:∀i x o',xs[i]?=some x→J i o'→∀h0 G0 O0,(∀b,G0 b→b < h0.size)→CA ⟨P,tt,en,ok,T,n,rs,K,h0,G0,O0,⟨none⟩⟩ [.brk h0.size, .code body, .rd (rdI h0 G0 O0 (rdM (J (i+1)) E))] asg (parA ps.toList x e) o')
  (hd:∀o',J xs.length o'→PA ⟨P,tt,en,ok,T,n,rs,K,h0,G0,O0,⟨none⟩⟩ k .normal e o') (hret:∀o',E .ret o'→PA ⟨P,tt,en,ok,T,n,rs,K,h0,G0,O0,⟨none⟩⟩ k .ret e o') (hex:∀i o',E (.exit i) o'→PA ⟨P,tt,en,ok,T,n,rs,K,h0,G0,O0,⟨none⟩⟩ k (.exit i) e o') (hgo:∀i o',¬E (.goto i) o') :
  CA ⟨P,tt,en,ok,T,n,rs,K,h0,G0,O0,⟨none⟩⟩ k (.rangeFunc g ps asg body) e o :=
 CA.rangeG hg he hit (fun i x hx=>hps x (zM hx)) hpn J E (fun h=>by cases h) hj (fun i x o' hx=>hb i x o' hx) hd hret hex hgo
theorem CA.nilCell{α:Type}{y:Code}{b i:Nat}{T:TypeId}{cs:List AV}{rest:List Res}(tk:Take o (blkR b T cs) rest)(hi:cs[i]?=some (.val (.slice none 0 0)))(T' sz:Nat)(f:α→List AV)
  (h:∀v,CA Γ k y e (blkR b T (cs.set i (.ow v)) :: arrR v T' sz [] f :: rest)):CA Γ k y e o:=by
 refine⟨fun env hh G Os cn=>?_⟩
 obtain⟨O,Os',cn2⟩:=cn.take tk
 have hp:HpOK Γ.h0 Γ.G0 Γ.O0 (arrR (.slice none 0 0) T' sz [] f :: blkR b T cs :: rest) hh G ((fun _=>False) :: O :: Os'):=HpOK.nilA cn2.hp T' sz f
 obtain⟨h1,⟨ho,vs,hb,hr⟩,h2⟩:=hp.own
 obtain⟨u,hu,hu2⟩:=hr.t.get hi
 have hu2:u= .slice none 0 0:=hu2
 subst hu2
 have hset:vs.set i (.slice none 0 0)=vs:=by
  apply List.ext_getElem?
  intro j
  rw [List.getElem?_set]
  by_cases hij:i=j
  ·subst hij;rw [if_pos rfl,if_pos (zS.1 hu).1,hu]
  ·rw [if_neg hij]
 have hr2:=hr.t.set i (v:= .slice none 0 0) (a:= .ow (.slice none 0 0)) ⟨rfl,none,0,0,rfl⟩
 rw [hset] at hr2
 have hp2:HpOK Γ.h0 Γ.G0 Γ.O0 (blkR b T (cs.set i (.ow (.slice none 0 0))) :: arrR (.slice none 0 0) T' sz [] f :: rest) hh G (O :: (fun _=>False) :: Os'):=hp.perm ⟨⟨ho,vs,hb,hr2,hr.one⟩,h1,h2⟩ (List.Perm.swap _ _ _)
 exact(h (.slice none 0 0)).h env hh G _ ⟨hp2,cn.env,cn.nf⟩
end
def yl(n:Nat)(Q:Exit→Env→World→Prop) : Exit→Act→World→Prop
 | .panic _,_,_=>False
 | .outgrown,_,_=>False
 | .normal,a,w=>a.defers= []∧∃env,Agree n env a∧Q .normal env w
 | .ret,a,w=>a.defers= []∧∃env,Agree n env a∧Q .ret env w
 | .exit i,a,w=>a.defers= []∧∃env,Agree n env a∧Q (.exit i) env w
 | .goto i,a,w=>a.defers= []∧∃env,Agree n env a∧Q (.goto i) env w
structure YC (P:Program) (n:Nat) (c:Code) (Q:Exit→Env→World→Prop) (env:Env) (w:World):Prop where
 run:∀a,Agree n env a→a.defers= []→c.wpIn (wide none) 0 P (yl n Q) a w
structure YO (P:Program) (n:Nat) (ops:Array Oper) (Q:Exit→Env→World→Prop) (l:List Oper) (env:Env) (w:World):Prop where
 run:∀a,Agree n env a→a.defers= []→wpListIn (wide none) 0 P ops (yl n Q) l a w
def thn(K:Env→World→Prop)(Q:Exit→Env→World→Prop) : Exit→Env→World→Prop
 | .normal,e,w=>K e w
 | x,e,w=>Q x e w
def blkY(id:Nat)(Q:Exit→Env→World→Prop) : Exit→Env→World→Prop
 | .exit i,e,w=>if i=id then Q .normal e w else Q (.exit i) e w
 | x,e,w=>Q x e w
section
variable {P:Program} {n:Nat} {Q:Exit→Env→World→Prop} {env:Env} {w:World} {ops:Array Oper} {l:List Oper}
theorem YC.seq{x y:Code}(hx:YC P n x (thn (fun e w=>YC P n y Q e w) Q) env w) : YC P n (.seq x y) Q env w:=by
 refine⟨fun a ha hd=>wpIn_seq (wpIn_mono (hx.run a ha hd) fun e a1 w1 hl=>?_)⟩
 cases e <;> simp only [yl,thn,Exit.then] at hl ⊢
 case normal=>obtain⟨h1,e1,h2,h3⟩:=hl;exact h3.run a1 h2 h1
 all_goals exact hl
theorem YC.skip(hk:Q .normal env w) : YC P n .skip Q env w:=⟨fun _ ha hd=>wpIn_skip ⟨hd,env,ha,hk⟩⟩
theorem YC.ret(hk:Q .ret env w) : YC P n .ret Q env w:=⟨fun _ ha hd=>wpIn_ret ⟨hd,env,ha,hk⟩⟩
theorem YC.exit{i:Nat}(hk:Q (.exit i) env w) : YC P n (.exit i) Q env w:=⟨fun _ ha hd=>wpIn_exit ⟨hd,env,ha,hk⟩⟩
theorem YC.cond{c:Operand}{x y:Code}{b:Bool}(hc:ev env c=some (.bool b))(hx:b=true→YC P n x Q env w)(hy:b=false→YC P n y Q env w) : YC P n (.cond c x y) Q env w :=
 ⟨fun a ha hd=>wpIn_cond_split (ha.ev hc) (fun hb=>(hx hb).run a ha hd) (fun hb=>(hy hb).run a ha hd)⟩
theorem YC.block{id:Nat}{c:Code}(hc:YC P n c (blkY id Q) env w) : YC P n (.block id c) Q env w:=by
 refine⟨fun a ha hd=>wpIn_block (wpIn_mono (hc.run a ha hd) fun e a1 w1 hl=>?_)⟩
 cases e <;> simp only [yl,blkY,Exit.inBlock] at hl ⊢
 case exit i =>
  obtain⟨h1,e1,h2,h3⟩:=hl
  split
  ·rename_i hi;rw [if_pos hi] at h3;exact⟨h1,e1,h2,h3⟩
  ·rename_i hi;rw [if_neg hi] at h3;exact⟨h1,e1,h2,h3⟩
 all_goals exact hl
theorem YC.loop{c:Code}(I:Nat→Env→World→Prop)(m0:Nat)(h0:I m0 env w)(round:∀m e w,I m e w→YC P n c (thn (fun e' w'=>∃m',m' < m∧I m' e' w') Q) e w) : YC P n (.loop c) Q env w:=by
 refine⟨fun a0 ha0 hd0 b kk cs hro hb hr=>?_⟩
 have key:∀m e a w,I m e w→Agree n e a→a.defers= []→
   ∃e a' w',yl n Q e a' w'∧ArrivesIn (Machine.fenced P (wide none)) P (lone (b.atR a (.code c :: .inLoop c :: kk)) cs w) b kk cs e a' w':=by
  intro m
  induction m using Nat.strongRecOn with
  | _ m ih =>
   intro e a w hI hag hdf
   obtain⟨x,a1,w1,hq,harr⟩:=(round m e w hI).run a hag hdf b (.inLoop c :: kk) cs hro hb hr
   cases x with
   | normal =>
    simp only [yl,thn] at hq
    obtain⟨hd1,e1,hag1,m',hlt,hI'⟩:=hq
    obtain⟨e2,a2,w2,hq2,harr2⟩:=ih m' hlt e1 a1 w1 hI' hag1 hd1
    exact⟨e2,a2,w2,hq2, .of_steps (StepsIn.trans harr (.one (fenced_calm hb hr rfl) stepR_inLoop)) harr2⟩
   | exit id=>exact⟨(.exit id),a1,w1,(show yl n Q (.exit id) a1 w1 from hq), .pass (x:= .inLoop c) rfl (fun _ _=> .inl (by simp)) harr⟩
   | goto l=>exact⟨(.goto l),a1,w1,(show yl n Q (.goto l) a1 w1 from hq), .pass (x:= .inLoop c) rfl (fun _ _=> .inl (by simp)) harr⟩
   | ret=>exact⟨.ret,a1,w1,(show yl n Q .ret a1 w1 from hq), .pass (x:= .inLoop c) rfl (fun _ _=> .inl (by simp)) harr⟩
   | panic ch=>exact hq.elim
   | outgrown=>exact hq.elim
 obtain⟨e,a',w',hq,harr⟩:=key m0 env a0 w h0 ha0 hd0
 exact⟨e,a',w',hq, .of_steps (.one (fenced_calm hb hr rfl) stepR_loop) harr⟩
theorem YC.region{id:Nat}(hr:YO P n l.toArray Q l env w) : YC P n (.region id l.toArray false) Q env w:=⟨fun a ha hd=>wpIn_region_lit (hr.run a ha hd)⟩
theorem YO.nil(hq:Q .normal env w) : YO P n ops Q [] env w:=⟨fun _ ha hd=>⟨hd,env,ha,hq⟩⟩
theorem YO.step{o:Oper}(hg:o.guard=none)(hd:dOK n o.dst=true)(hn:∀c,o.op≠ .defer c)(hs:St P n ([]:List Nat) .read o.dst o.op o.type env w.heap (fun e _=>YO P n ops Q l e w)) : YO P n ops Q (o :: l) env w:=by
 obtain⟨v,h1,h2⟩:=hs.rd rfl
 refine⟨fun a ha hdf=>wpListIn_plain hg fun K hK=>⟨fun _ _=>trivial, ?_⟩⟩
 rw [Oper.semAt_eq _ _ _ hn,exec_mk,h1 a w ha (Stp.refl _)]
 exact hK _ _ (h2.run _ (ha.put hd v) (by rw [put_dfr];exact hdf))
theorem YO.yield{o:Oper}{lp:Nat}{x:Operand}{args:Array Operand}{at':Array TypeId}{vs:List Value}(ho:o.op= .call { callee:= .value x,args:=args,argTypes:=at' })(hg:o.guard=none)(hd:dOK n o.dst=true)(hx:ev env x=some (.func (.yield lp) #[] #[]))(hv:evs env args.toList=some vs)
  (hy:YieldAt Fence.wide 0 P lp vs.toArray w fun e w'=>∃v,e= .returned v∧YO P n ops Q l (putE env o.dst v) w'):YO P n ops Q (o :: l) env w:=by
 obtain⟨fn,tmps,assign,body,hrun,hround⟩:=hy
 refine⟨fun a ha hdf=>wpListIn_plain hg fun K hK=>⟨fun _ _=>trivial, ?_⟩⟩
 have hargs:args.map a.eval=vs.toArray:=by
  apply Array.ext'
  rw [Array.toList_map]
  exact ha.evs hv
 have h2:(execOp a.eval (mkOp o.op o.type)).run P w= .ok (.round lp fn tmps assign body) w:=by
  rw [ho]
  simp [mkOp,execOp,resolve,invoke,ha.ev hx,hargs,hrun,Deferred.ofValue]
 rw [Oper.semAt_eq _ _ _ (fun c h=>by rw [ho] at h;cases h),exec_mk,h2]
 refine⟨fun h=>(by cases h),RoundIn.mono (show RoundIn (wide none) (0 - 1) P lp fn tmps assign body w _ from hround) fun e w' ⟨v,he,hk⟩=>?_⟩
 subst he
 exact hK _ _ (hk.run _ (ha.put hd v) (by rw [put_dfr];exact hdf))
theorem YC.calls{f:FuncId}{fn:Func}{c:Code}{vs:List Value}{R:World→Prop}(hf:P.funcs[f]?=some fn)(hb:fn.body=some c)(hn:fn.ntmps=n)(hr:fn.results=#[])(hl:Nat.ble vs.length n=true)
  (hc:YC P n c (fun e _ w'=>(e= .normal∨e= .ret)∧R w') (argE 0 vs) w):Calls P f vs.toArray w fun e w'=>(∃v,e= .returned v)∧R w':=by
 refine calls_of_wp hf hb ((wpIn_wide (n:=0)).1 (wpIn_mono (hc.run _ ⟨?_,fun t v hv=>?_⟩ rfl) fun e a w1 hl=>?_))
 ·have:=zB hl
  simp only [Array.size_append,List.size_toArray,Array.size_replicate,hn]
  omega
 ·obtain⟨_,h2⟩:=look_argE vs 0 t v hv
  have hlt:t < vs.length:=by
   have:=(zS.1 h2).1
   omega
  rw [Array.getElem?_append_left (by simpa using hlt)]
  simpa using h2
 ·cases e <;> simp only [yl] at hl <;> simp only [bodyPost]
  case normal=>obtain⟨hd,env,ha,_,hq⟩:=hl;exact⟨hd,_,results_none hr _ _ _,⟨_,rfl⟩,hq⟩
  case ret=>obtain⟨hd,env,ha,_,hq⟩:=hl;exact⟨hd,_,results_none hr _ _ _,⟨_,rfl⟩,hq⟩
  case exit=>obtain⟨_,_,_,h,_⟩:=hl;rcases h with h|h <;> cases h
  case goto=>obtain⟨_,_,_,h,_⟩:=hl;rcases h with h|h <;> cases h
end
structure ALe (a b:AV):Prop where
 le:∀{h:Heap} {G:Nat→Prop} {v:Value},a.R h G v→b.R h G v
theorem ALe.refl(a:AV) : ALe a a:=⟨fun h=>h⟩
theorem ALe.nil{α:Type}{sz:Nat}{f:α→List AV} : ALe (.val (.slice none 0 0)) (.sl sz [] f):=⟨fun h=>by
 have h:_=_:=h
 subst h
 exact⟨by simp, .inl ⟨rfl,none,0,rfl⟩⟩⟩
inductive RLe:List AV→List AV→Prop where
 | nil:RLe [] []
 | cons {a b:AV} {l m:List AV} : ALe a b→RLe l m→RLe (a :: l) (b :: m)
theorem RLe.rep{h:Heap}{G:Nat→Prop}{l m:List AV}(x:RLe l m) :∀{vs:List Value},RepT h G vs l→RepT h G vs m:=by
 induction x with
 | nil=>exact fun hr=>hr
 | cons ha _ ih =>
  intro vs hr
  match vs,hr with
  | v :: vs,⟨h1,h2⟩=>exact⟨ha.le h1,ih h2⟩
section
variable {k:List KI} {e:EA} {o:List Res}
end
inductive FX:List Res→List AV→List AV→List Res→Prop where
 | nil {o:List Res} : FX o [] [] o
 | le {o own:List Res} {a b:AV} {l l':List AV} : ALe a b→FX o l l' own→FX o (a :: l) (b :: l') own
 | agg {o o1 own:List Res} {cs cs' l l':List AV} : FX o cs cs' o1→FX o1 l l' own→FX o (.agg cs :: l) (.agg cs' :: l') own
 | tup {o o1 own:List Res} {cs cs' l l':List AV} : FX o cs cs' o1→FX o1 l l' own→FX o (.tup cs :: l) (.tup cs' :: l') own
 | unb {o rest own rs:List Res} {l l':List AV} : Take o (bunR rs) rest→FX (rs ++ rest) l l' own→FX o l l' own
 | sl {o rest o1 own:List Res} {l l':List AV} {α β:Type} {v:Value} {T sz:Nat} {xs:List α} {f:α→List AV} {ys:List β} {g:β→List AV} :
   Take o (arrR v T sz xs f) rest→xs.length≤9223372036854775807→FX rest (xs.map fun x=> .agg (f x)) (ys.map fun y=> .agg (g y)) o1→FX o1 l l' own→FX o (.ow v :: l) (.sl sz ys g :: l') own
theorem FX.len{o own:List Res}{l l':List AV}(x:FX o l l' own) : l.length=l'.length:=by
 induction x with
 | nil=>rfl
 | le _ _ ih=>simp [ih]
 | agg _ _ _ ih=>simp [ih]
 | tup _ _ _ ih=>simp [ih]
 | unb _ _ ih=>exact ih
 | sl _ _ _ _ _ ih=>simp [ih]
theorem RepLL.aggs{h:Heap}{G:Nat→Prop}{α:Type}{f:α→List AV} :∀{rows:List (List Value)} {l:List α},RepLL h G rows (l.map f)→RepT h G (rows.map fun r=> .agg r.toArray) (l.map fun x=> .agg (f x))
 | [],[],_=>trivial
 | _ :: _,_ :: _,⟨h1,h2⟩=>⟨⟨_,rfl,h1⟩,RepLL.aggs h2⟩
 | [],_ :: _,h=>h.elim
 | _ :: _,[],h=>h.elim
theorem RepLL.unaggs{h:Heap}{G:Nat→Prop}{α:Type}{f:α→List AV} :∀{rows:List (List Value)} {l:List α},RepT h G (rows.map fun r=> .agg r.toArray) (l.map fun x=> .agg (f x))→RepLL h G rows (l.map f)
 | [],[],_=>trivial
 | v :: vs,x :: l,⟨⟨ws,e,h1⟩,h2⟩=>by
  have e':v=ws:=by
   have:=congrArg (fun u=>match u with|Value.agg a=>a.toList|_=> []) e
   simpa using this
  subst e'
  exact⟨h1,RepLL.unaggs h2⟩
 | [],_ :: _,h=>h.elim
 | _ :: _,[],h=>h.elim
theorem FX.rep{h0:Heap}{G0 O0:Nat→Prop}{h:Heap}{o own:List Res}{l l':List AV}(x:FX o l l' own) :∀{G:Nat→Prop} {Os:List (Nat→Prop)} {vs:List Value},HpOK h0 G0 O0 o h G Os→RepT h G vs l→∃G' Os',HpOK h0 G0 O0 own h G' Os'∧RepT h G' vs l'∧∀b,G b→G' b:=by
 induction x with
 | nil=>exact fun {G Os vs} c hr=>⟨G,Os,c,hr,fun _ h=>h⟩
 | le ha _ ih =>
  intro G Os vs c hr
  match vs,hr with
  | v :: vs,⟨r1,r2⟩ =>
   obtain⟨G',Os',h1,h2,h3⟩:=ih c r2
   exact⟨G',Os',h1,⟨AV.mono _ h3 (ha.le r1),h2⟩,h3⟩
 | agg _ _ ih1 ih =>
  intro G Os vs c hr
  match vs,hr with
  | v :: vs,⟨⟨ws,r1,r3⟩,r2⟩ =>
   obtain⟨G1,Os1,h1,h2,h3⟩:=ih1 c r3.t
   obtain⟨G2,Os2,h4,h5,h6⟩:=ih h1 (r2.mono h3)
   exact⟨G2,Os2,h4,⟨⟨ws,r1,h2.mono h6,r3.one⟩,h5⟩,fun b hb=>h6 b (h3 b hb)⟩
 | tup _ _ ih1 ih =>
  intro G Os vs c hr
  match vs,hr with
  | v :: vs,⟨⟨ws,r1,r3⟩,r2⟩ =>
   obtain⟨G1,Os1,h1,h2,h3⟩:=ih1 c r3
   obtain⟨G2,Os2,h4,h5,h6⟩:=ih h1 (r2.mono h3)
   exact⟨G2,Os2,h4,⟨⟨ws,r1,h2.mono h6⟩,h5⟩,fun b hb=>h6 b (h3 b hb)⟩
 | unb tk _ ih =>
  intro G Os vs c hr
  obtain⟨O,os',c2⟩:=c.take tk
  obtain⟨A,_,g2⟩:=c2.unbun
  exact ih g2 hr
 | sl tk hl hf _ ih1 ih =>
  intro G Os vs c hr
  match vs,hr with
  | v :: vs,⟨⟨r1,_⟩,r2⟩ =>
   subst r1
   obtain⟨O,os',c2⟩:=c.take tk
   have hrr:=c2.own.1
   have hlen:_=_:=hf.len
   simp only [List.length_map] at hlen
   obtain⟨g1,⟨g2,p,cap,g3⟩|⟨b,of,cap,rows,g2,g3,g4,g5,g6,g7,g8⟩⟩:=sl_of_own hrr hl
   ·obtain⟨G1,Os1,h1,_,h3⟩:=ih1 (vs:= []) c2.freeze (by rw [g2];trivial)
    obtain⟨G2,Os2,h4,h5,h6⟩:=ih h1 (r2.mono fun b hb=>h3 b (.inl hb))
    refine⟨G2,Os2,h4,⟨⟨by omega, .inl ⟨zQ (by rw [←hlen,g2];rfl),p,cap,g3⟩⟩,h5⟩,fun b hb=>h6 b (h3 b (.inl hb))⟩
   ·obtain⟨G1,Os1,h1,h2,h3⟩:=ih1 c2.freeze (RepLL.of g8).aggs
    obtain⟨G2,Os2,h4,h5,h6⟩:=ih h1 (r2.mono fun b hb=>h3 b (.inl hb))
    refine⟨G2,Os2,h4,⟨⟨by omega, .inr ⟨b,of,cap,rows,by rw [←hlen];exact g2,by omega,by omega,h6 _ (h3 _ g5),g6,g7,(RepLL.to (RepLL.unaggs h2) g8.sz).mono h6⟩⟩,h5⟩,fun b hb=>h6 b (h3 b (.inl hb))⟩
theorem FX.refl{o:List Res} :∀l:List AV,FX o l l o
 | []=> .nil
 | a :: l=> .le (ALe.refl a) (FX.refl l)
theorem FX.rows{α β:Type}{r:α→Res}{f:α→List AV}{g:β→List AV}{φ:α→β}{o:List Res} :∀L:List α,(∀x∈L,∀o',FX (r x :: o') (f x) (g (φ x)) o')→FX (L.map r ++ o) (L.map fun x=> .agg (f x)) ((L.map φ).map fun y=> .agg (g y)) o
 | [],_=> .nil
 | x :: L,hf=> .agg (hf x (by simp) _) (FX.rows L fun y hy=>hf y (by simp [hy]))
theorem CallA.args{P:Program}{f:FuncId}{asx as':List AV}{own:List Res}{K:AV→List Res→Prop}(w:RLe asx as')(h:CallA P f as' own K) : CallA P f asx own K :=
 ⟨fun hh G Os vs h1 h2=>h.run hh G Os vs (w.rep h1) h2⟩
theorem CallA.fxr{P:Program}{f:FuncId}{asx:List AV}{own:List Res}{K K':AV→List Res→Prop}(h:CallA P f asx own K)(hK:∀r o,K r o→∃a o',FX o [r] [a] o'∧K' a o') : CallA P f asx own K' :=
 ⟨fun hh G Os vs h1 h2=>(h.run hh G Os vs h1 h2).mono fun v' h' ⟨r,o,G',Os',hk,g1,g2⟩=>by
  obtain⟨a,o',x,hk'⟩:=hK r o hk
  obtain⟨G2,Os2,k1,k2,k3⟩:=x.rep g2 (vs:= [v']) ⟨g1,trivial⟩
  exact⟨a,o',G2,Os2,hk',k2.1,k1⟩⟩
theorem FX.s1{α:Type}{o rest own:List Res}{l l':List AV}{v:Value}{T sz:Nat}{xs:List α}{f:α→List AV}(tk:Take o (arrR v T sz xs f) rest)(hl:xs.length≤9223372036854775807)(h:FX rest l l' own) : FX o (.ow v :: l) (.sl sz xs f :: l') own:= .sl tk hl (FX.refl _) h
theorem Res.eq{a b:Res}(h:a.R=b.R) : a=b:=by
 cases a;cases b;cases h;rfl
theorem arrR_eq{α β:Type}{v:Value}{T sz:Nat}{l:List α}{f:α→List AV}{m:List β}{g:β→List AV}(he:l.map f=m.map g) : arrR v T sz l f=arrR v T sz m g:=Res.eq (by
 have hl:l.length=m.length:=by have:=congrArg List.length he;simpa using this
 funext h O G
 refine propext ⟨fun⟨ho,rows,h1,h2⟩=>⟨ho,rows,by rw [←hl];exact h1,h2.map he.symm⟩,fun⟨ho,rows,h1,h2⟩=>⟨ho,rows,by rw [hl];exact h1,h2.map he⟩⟩)
theorem ALe.nilow : ALe (.val (.slice none 0 0)) (.ow (.slice none 0 0)):=⟨fun h=>⟨h,none,0,0,rfl⟩⟩
structure FlatV (a:AV):Prop where
 h:∀{h:Heap} {G G':Nat→Prop} {v:Value},a.R h G v→a.R h G' v
structure FlatR (R:Res):Prop where
 h:∀{h:Heap} {O G G':Nat→Prop},R.R h O G→R.R h O G'
theorem FlatV.val(v:Value) : FlatV (.val v):=⟨fun h=>h⟩
theorem FlatV.ow(v:Value) : FlatV (.ow v):=⟨fun h=>h⟩
inductive FlatL:List AV→Prop where
 | nil:FlatL []
 | cons {a:AV} {l:List AV} : FlatV a→FlatL l→FlatL (a :: l)
theorem FlatL.rep{h:Heap}{G G':Nat→Prop}{l:List AV}(f:FlatL l) :∀{vs:List Value},RepT h G vs l→RepT h G' vs l:=by
 induction f with
 | nil=>intro vs hr;match vs,hr with | [],_=>trivial
 | cons ha _ ih =>
  intro vs hr
  match vs,hr with
  | v :: vs,⟨r1,r2⟩=>exact⟨ha.h r1,ih r2⟩
theorem FlatV.tup{l:List AV}(f:FlatL l) : FlatV (.tup l):=⟨fun⟨vs,h1,h2⟩=>⟨vs,h1,f.rep h2⟩⟩
theorem FlatR.arr{α:Type}{v:Value}{T sz:Nat}{l:List α}{f:α→List AV}(hf:∀x∈l,FlatL (f x)) : FlatR (arrR v T sz l f):=⟨fun⟨ho,rows,h1,h2⟩=>⟨ho,rows,h1,⟨h2.len,fun i r x g1 g2=>⟨(hf x (zM g2)).rep (h2.row i r x g1 g2).t,(h2.row i r x g1 g2).one⟩,h2.sz⟩⟩⟩
theorem FlatR.own{h:Heap}{G G':Nat→Prop} :∀{rs:List Res} {os:List (Nat→Prop)},(∀R∈rs,FlatR R)→OwnL h G rs os→OwnL h G' rs os
 | [],[],_,_=>trivial
 | R :: rs,O :: os,hf,⟨h1,h2⟩=>⟨(hf R (by simp)).h h1,FlatR.own (fun R hR=>hf R (by simp [hR])) h2⟩
 | [],_ :: _,_,h=>h.elim
 | _ :: _,[],_,h=>h.elim
theorem Cl.lendO{Γ:Cx}{c:Cls}{o:List Res}{f:FuncId}{asx as':List AV}{K:AV→List Res→Prop}{M:AV→List Res→Prop}(hc:CallA Γ.P f as' [] K)(hl:Lend o asx as')(hK:∀r own,K r own→FlatV r∧∀R∈own,FlatR R)(hm:∀r own,K r own→M r (own ++ o)) : Cl Γ c f asx o M:=by
 refine⟨fun {h G Os vs} hp hr=>?_⟩
 have hin:HpOK h (fun b=>G b∨U Os b) (U []) [] h (fun b=>G b∨U Os b) [] :=
  ⟨trivial,fun b hb=>⟨hb.elim (fun h9=>(hp.g b h9).1) (fun⟨O,hO,h9⟩=>(hp.o O hO b h9).1), .inl hb⟩,fun _ h=>h,fun O hO=>(by cases hO),List.Pairwise.nil,FPx.refl h⟩
 refine(hc.run h _ [] vs (hl.rep hp.own hr) hin).mono fun v h' ⟨r',own',G',Os',hk,g3,g4⟩=>?_
 obtain⟨f1,f2⟩:=hK _ _ hk
 have hst:Stp ([]:List Nat) h h':=⟨g4.fp.size,fun b hb _=>g4.fp.same b (fun⟨O,hO,_⟩=>by cases hO) hb⟩
 have hx:∀S,FPx S h h':=fun S=>⟨hst.size,fun b _ hb=>hst.same b hb (by simp)⟩
 have hs:=hp.fp.size
 have hs':=hst.size
 have hnew:∀O∈Os',∀b,O b→h.size≤b:=fun O hO b hb=>by
  rcases(g4.o O hO b hb).2.1 with⟨O2,hO2,_⟩|h9
  ·cases hO2
  ·exact h9
 refine⟨.inr hst,r',own' ++ o,G,Os' ++ Os,hm _ _ hk,f1.h g3,⟨(FlatR.own f2 g4.own).app (OwnL.stp (fun O _=>hx _) hp.own),fun b hb=>⟨by have:=(hp.g b hb).1;omega,(hp.g b hb).2.imp id fun q=>⟨q.1,q.2.eq (hst.same b (hp.g b hb).1 (by simp))⟩⟩,hp.g0,fun O hO b hb=>?_,List.pairwise_append.2 ⟨g4.d,hp.d,fun A hA B hB b ha hb=>?_⟩,⟨by omega,fun b hb hl=>?_⟩⟩,hx G,fun _ h=>h⟩
 ·rcases zV.1 hO with hO|hO
  ·have:=hnew O hO b hb
   exact⟨(g4.o O hO b hb).1, .inr (by omega),fun hg=>by have:=(hp.g b hg).1;omega⟩
  ·exact⟨by have:=(hp.o O hO b hb).1;omega,(hp.o O hO b hb).2⟩
 ·have:=hnew A hA b ha
  have:=(hp.o B hB b hb).1
  omega
 ·rw [hst.same b (by omega) (by simp)]
  exact hp.fp.same b hb hl
section
variable {Γ:Cx} {k:List KI} {e:EA} {o:List Res} {N:NA} {c:Cls} {d:Tmp} {ty:TypeId} {x y z:Operand} {t u:TypeId}
/-! ### delete -/
/-! ### Ranges -/
structure NxK {β:Type} (rem:List (List Int×β)) (X:List Int×β→List (List Int×β)→Prop) (Y:Prop):Prop where
 x:∀p rem',(p :: rem').Perm rem→X p rem'
 y:rem= []→Y
end
end Go.CF
namespace Go.Proofs.Ythlpimbhonihhaa
open Go Go.CF
structure EntS where
 term:Int
 kind:Int
 rep:Int
 ser:Int
 act:Int
 vot:List Int
deriving DecidableEq
structure JkS where
 a:Value
 b:Value
 c:Value
 d:Value
 e:Value
 f:Value
 g:Value
 h:Value
 i:Value
structure MsgS where
 kind:Int
 frm:Int
 to:Int
 jk:JkS
 term:Int
 index:Int
 logt:Int
 commit:Int
 granted:Bool
 es:Option (List EntS)
def MsgS.ents(m:MsgS) : List EntS:=m.es.getD []
def jk0 : JkS:=⟨.slice none 0 0, .slice none 0 0, .slice none 0 0, .int .i64 0, .int .i64 0, .int .i64 0, .int .i64 0, .int .i64 0, .slice none 0 0⟩
structure EleN where
 n:Int
 i:Int
 term:Int
 vote:Int
 role:Int
 leader:Int
 votes:List Int
 silent:Int
def seeF(e:EleN)(t:Int) : EleN:=if e.term < t∧t≤1048576 then { e with term:=t,vote:= -1,role:=0,leader:= -1,votes:= [] } else e
def cntM(voters some:List Int) : Nat:=(voters.filter fun v=>decide (v∈some)).length
def majF(voters some:List Int) : Bool:=decide (voters.length < 2 * cntM voters some)
def winF(e:EleN)(voters:List Int) : EleN:=if majF voters e.votes then { e with role:=2,leader:=e.i } else e
def msg0(kind frm to term index logt:Int)(granted:Bool) : MsgS:=⟨kind,frm,to,jk0,term,index,logt,0,granted,none⟩
def standF(e:EleN)(voters:List Int) : EleN:=winF { e with term:=e.term+1,vote:=e.i,role:=1,leader:= -1,votes:= [e.i],silent:=0 } voters
def askF(e:EleN)(voters:List Int)(index term:Int) : List MsgS:=(voters.filter fun v=>decide (v≠e.i)).map fun v=>msg0 5 e.i v e.term index term false
def tickF(e:EleN)(voters:List Int)(index term:Int) : EleN×List MsgS :=
 if e.role=2 then(e,[])
 else if e.silent+1 < 10+3 * e.i then({ e with silent:=e.silent+1 },[])
 else if¬e.i∈voters∨1048576≤e.term then({ e with silent:=0 },[])
 else if majF voters [e.i] then(standF e voters,[])
 else(standF e voters,askF (standF e voters) voters index term)
def othF(n i r:Int) : Bool:=decide (0≤r∧r < n∧r≠i)
def goodF(m:MsgS)(index last:Int) : Bool:=decide (last < m.logt∨m.logt=last∧index≤m.index)
def grantF(e:EleN)(m:MsgS)(index last:Int) : Bool:=decide (m.term=e.term∧(e.vote= -1∨e.vote=m.frm)) && goodF m index last
def askedF(e:EleN)(m:MsgS)(index last:Int) : EleN×List MsgS :=
 (if grantF e m index last then { e with vote:=m.frm,silent:=0 } else e,[msg0 6 e.i m.frm e.term 0 0 (grantF e m index last)])
def votedF(e:EleN)(m:MsgS)(voters:List Int) : EleN :=
 if e.role=1∧m.term=e.term∧m.granted=true then winF { e with votes:=e.votes ++ [m.frm] } voters else e
def recvF(e:EleN)(m:MsgS)(voters:List Int)(index last:Int) : EleN×List MsgS :=
 if¬(m.kind=5∨m.kind=6)∨m.to≠e.i∨othF e.n e.i m.frm=false∨m.term < 1∨1048576 < m.term then(e,[])
 else if m.kind=5 then askedF (seeF e m.term) m index last
 else(votedF (seeF e m.term) m voters,[])
def followF(e:EleN)(leader term:Int) : EleN×Bool :=
 if othF e.n e.i leader=false∨term < 1∨1048576 < term then(e,false)
 else if term≠(seeF e term).term∨(seeF e term).role=2 then(seeF e term,false)
 else({ seeF e term with role:=0,leader:=leader,silent:=0 },true)
end Go.Proofs.Ythlpimbhonihhaa
namespace Go.CF
open Go
theorem HpOK.nilCell{h0:Heap}{G0 O0:Nat→Prop}{o rest:List Res}{h:Heap}{G:Nat→Prop}{Os:List (Nat→Prop)}{α:Type}{b i:Nat}{T:TypeId}{cs:List AV}(tk:Take o (blkR b T cs) rest)(hi:cs[i]?=some (.val (.slice none 0 0)))(T' sz:Nat)(f:α→List AV)
  (hp:HpOK h0 G0 O0 o h G Os):∃Os',HpOK h0 G0 O0 (blkR b T (cs.set i (.ow (.slice none 0 0))) :: arrR (.slice none 0 0) T' sz [] f :: rest) h G Os':=by
 obtain⟨O,Os',hp0⟩:=hp.take tk
 have hp:HpOK h0 G0 O0 (arrR (.slice none 0 0) T' sz [] f :: blkR b T cs :: rest) h G ((fun _=>False) :: O :: Os'):=HpOK.nilA hp0 T' sz f
 obtain⟨h1,⟨ho,vs,hb,hr⟩,h2⟩:=hp.own
 obtain⟨u,hu,hu2⟩:=hr.t.get hi
 have hu2:u= .slice none 0 0:=hu2
 subst hu2
 have hset:vs.set i (.slice none 0 0)=vs:=by
  apply List.ext_getElem?
  intro j
  rw [List.getElem?_set]
  by_cases hij:i=j
  ·subst hij;rw [if_pos rfl,if_pos (zS.1 hu).1,hu]
  ·rw [if_neg hij]
 have hr2:=hr.t.set i (v:= .slice none 0 0) (a:= .ow (.slice none 0 0)) ⟨rfl,none,0,0,rfl⟩
 rw [hset] at hr2
 exact⟨O :: (fun _=>False) :: Os',hp.perm ⟨⟨ho,vs,hb,hr2,hr.one⟩,h1,h2⟩ (List.Perm.swap _ _ _)⟩
theorem CallA.nilPost{P:Program}{f:FuncId}{asx:List AV}{own:List Res}{K K':AV→List Res→Prop}{α:Type}(T' sz:Nat)(g:α→List AV)(h:CallA P f asx own K)
  (hk:∀r o,K r o→K' r o∨∃b T cs rest i,Take o (blkR b T cs) rest∧cs[i]?=some (.val (.slice none 0 0))∧K' r (blkR b T (cs.set i (.ow (.slice none 0 0))) :: arrR (.slice none 0 0) T' sz [] g :: rest)):CallA P f asx own K' :=
 ⟨fun hh G Os vs h1 h2=>(h.run hh G Os vs h1 h2).mono fun _ _ ⟨r,o,G',Os',g1,g2,g3⟩=>by
  rcases hk r o g1 with h9|⟨b,T,cs,rest,i,tk,hi,h9⟩
  ·exact⟨r,o,G',Os',h9,g2,g3⟩
  ·obtain⟨Os2,hp⟩:=HpOK.nilCell tk hi T' sz g g3
   exact⟨r,_,G',Os2,h9,g2,hp⟩⟩
end Go.CF
namespace Go.Proofs.Ythlpimbhonihhaa
open Go Go.CF
abbrev it (x:Int):AV:= .val (.int .i64 x)
abbrev pm (b:Nat):AV:= .val (.pointer (some ⟨b,0,none⟩))
abbrev bl (b:Bool):AV:= .val (.bool b)
def entC(e:EntS) : List AV:= [it e.term,it e.kind,it e.rep,it e.ser,it e.act,ints e.vot]
abbrev entsA (l:List EntS):AV:= .sl 6 l entC
def eoA : Option (List EntS)→AV
 | none=> .val (.slice none 0 0)
 | some l=>entsA l
def msgC(m:MsgS) : List AV:= [it m.kind,it m.frm,it m.to, .val m.jk.a, .val m.jk.b, .val m.jk.c, .val m.jk.d, .val m.jk.e, .val m.jk.f, .val m.jk.g, .val m.jk.h, .val m.jk.i,it m.term,it m.index,it m.logt,it m.commit, .val (.bool m.granted),eoA m.es]
abbrev msgs (l:List MsgS):AV:= .sl 18 l msgC
def eleC(e:EleN)(v:Value) : List AV:= [it e.n,it e.i,it e.term,it e.vote,it e.role,it e.leader, .ow v,it e.silent]
abbrev eleR (p:Nat) (v:Value) (e:EleN):List Res:= [blkR p 93 (eleC e v),arrR v 3 1 e.votes intC]
theorem eterm_a(p:Nat)(v:Value)(e:EleN) : CallA Try.prog 22 [pm p] (eleR p v e) fun r own=>r= .tup [it e.term,it e.vote]∧own=eleR p v e:=by
 refine CallA.of pg ord22 Try.func22 rfl Try.ntmps22 Try.results22 rfl fun h0 G0 O0=>?_
 repeat'(first|apply Sp.h|refine Lk.r rfl ?_|refine Rf.mk rfl ?_|refine OpK.r rfl ?_|refine xT ?_|refine xN ?_|refine xD ?_|fail)
 exact⟨_,_, .tup (.same (.same (.z))),rfl,rfl⟩
theorem erole_a(p:Nat)(v:Value)(e:EleN) : CallA Try.prog 19 [pm p] (eleR p v e) fun r own=>r= .tup [it e.role,it e.leader]∧own=eleR p v e:=by
 refine CallA.of pg ord19 Try.func19 rfl Try.ntmps19 Try.results19 rfl fun h0 G0 O0=>?_
 repeat'(first|apply Sp.h|refine Lk.r rfl ?_|refine Rf.mk rfl ?_|refine OpK.r rfl ?_|refine xT ?_|refine xN ?_|refine xD ?_|fail)
 exact⟨_,_, .tup (.same (.same (.z))),rfl,rfl⟩
theorem see_a(p:Nat)(v:Value)(e:EleN)(t:Int) : CallA Try.prog 98 [pm p,it t] (eleR p v e) fun r own=>r= .tup []∧∃v',own=eleR p v' (seeF e t):=by
 by_cases h:e.term < t∧t≤1048576
 ·have hF:seeF e t= { e with term:=t,vote:= -1,role:=0,leader:= -1,votes:= [] }:=if_pos h
  obtain⟨h1,h2⟩:=h
  rw [hF]
  refine CallA.nilPost 3 1 intC (K:=fun r own=>r= .tup []∧own= [blkR p 93 [it e.n,it e.i,it t,it (-1),it 0,it (-1), .val (.slice none 0 0),it e.silent]]) ?_ ?_
  ·refine CallA.of pg ordZ Try.func98 rfl Try.ntmps98 Try.results98 rfl fun h0 G0 O0=>?_
   repeat'(first|apply Sp.h|refine Lk.r rfl ?_|refine Rf.mk rfl ?_|refine xA ?_|refine xT ?_|refine xV ?_|refine xN ?_|fail)
   exact⟨_,_, .tup (.z),rfl,rfl⟩
  ·rintro _ _ ⟨rfl,rfl⟩
   exact .inr ⟨_,_,_,_,6, .here,rfl,rfl,_,rfl⟩
 ·have hF:seeF e t=e:=if_neg h
  rw [hF]
  refine CallA.of pg ordZ Try.func98 rfl Try.ntmps98 Try.results98 rfl fun h0 G0 O0=>?_
  repeat'(first|apply Sp.h|refine Lk.r rfl ?_|refine Rf.mk rfl ?_|refine xA ?_|refine xB ?_|apply Bd.mk|refine xT ?_|refine xN ?_|intro _)
  all_goals first
   | exact⟨_,_, .tup (.z),rfl,_,rfl⟩
   | exact(h ⟨by omega,by omega⟩).elim
theorem index_p(l:List Int)(x:Int) : CallA Try.prog 14 [ints l,it x] [] fun r own=>∃k:Int,r=it k∧own= []∧(0≤k↔x∈l):=by
 refine CallA.of pg ordZ Try.func14 rfl Try.ntmps14 Try.results14 rfl fun h0 G0 O0=>?_
 repeat'(first|apply Sp.h|refine Lk.r rfl ?_|refine Rf.mk rfl ?_|apply Im.mk|intro _)
 refine CA.loop (fun i:Nat=>⟨[(0,ints l),(1,it x),(7,it (l.length:Nat)),(8,it i)],[]⟩) (fun i=>i≤l.length∧∀y∈l.take i,y≠x) (fun i=>l.length - i) 0 xE ⟨zZ _,by simp⟩ ?_
 rintro i ⟨hi,hn⟩
 by_cases hin:i < l.length
 ·obtain⟨y,hy⟩:=get_of hin
  by_cases h:x=y
  ·subst h
   repeat'(first|apply Sp.h|refine Lk.r rfl ?_|refine Rf.mk rfl ?_|refine xA ?_|refine xI ?_|refine xN ?_|fail)
   exact⟨_,_, .one (.same (.z)),_,rfl,rfl,⟨fun _=>zM hy,fun _=>by omega⟩⟩
  ·repeat'(first|apply Sp.h|refine Lk.r rfl ?_|refine Rf.mk rfl ?_|refine xA ?_|refine xB ?_|refine xI ?_|refine xO ?_|fail)
   exact PA.lp (i+1) xE ⟨⟨hin,all_succ hy hn fun h9=>h h9.symm⟩,by omega⟩
 ·have:i=l.length:=by omega
  subst this
  rw [zL] at hn
  repeat'(first|apply Sp.h|refine Lk.r rfl ?_|refine Rf.mk rfl ?_|refine xB ?_|refine xN ?_|fail)
  exact⟨_,_, .one (.same (.z)),_,rfl,rfl,⟨fun h=>by omega,fun h=>absurd rfl (hn x h)⟩⟩
theorem contains_p(l:List Int)(x:Int) : CallP Try.prog 20 [ints l,it x] (bl (decide (x∈l))):=by
 have h:=index_p l x
 refine CallA.of pg ordZ Try.func20 rfl Try.ntmps20 Try.results20 rfl fun h0 G0 O0=>?_
 repeat'(first|apply Sp.h|refine Lk.r rfl ?_|refine Rf.mk rfl ?_|fail)
 refine xW (h) ?_
 rintro _ _ ⟨k,rfl,rfl,hk⟩
 repeat'(first|apply Sp.h|refine Lk.r rfl ?_|refine xN ?_|fail)
 exact Fin.p rfl (vb (zD.2 hk))
theorem majority_p(a b:List Int)(hl:a.length≤1000000) : CallP Try.prog 83 [ints a,ints b] (bl (majF a b)):=by
 refine CallA.of pg ordZ Try.func83 rfl Try.ntmps83 Try.results83 rfl fun h0 G0 O0=>?_
 repeat'(first|apply Sp.h|refine Lk.r rfl ?_|refine Rf.mk rfl ?_|apply Im.mk|intro _)
 refine CA.loop (fun i:Nat=>⟨[(0,ints a),(1,ints b),(5,it (cntM (a.take i) b:Nat)),(8,ints a),(9,it (a.length:Nat)),(10,it i)],[]⟩) (fun i=>i≤a.length) (fun i=>a.length - i) 0 xE (zZ _) ?_
 intro i hi
 have hcn:cntM (a.take i) b≤i:=by
  have h1:=List.length_filter_le (fun v=>decide (v∈b)) (a.take i)
  rw [zN] at h1
  unfold cntM
  omega
 by_cases hin:i < a.length
 ·obtain⟨x,hx⟩:=get_of hin
  have hc:=contains_p b x
  have hsu:cntM (a.take (i+1)) b=if x∈b then cntM (a.take i) b+1 else cntM (a.take i) b:=by
   unfold cntM
   rw [zK,hx,Option.toList_some,List.filter_append]
   by_cases h:x∈b <;> simp [h]
  by_cases h:x∈b
  ·rw [if_pos h] at hsu
   rw [zT h] at hc
   have hs2:((cntM (a.take i) b:Nat):Int)+1=((cntM (a.take (i+1)) b:Nat):Int):=by omega
   repeat'(first|apply Sp.h|refine Lk.r rfl ?_|refine Rf.mk rfl ?_|refine xA ?_|refine xI ?_|refine xO ?_|(apply Cl.p (hc);focus repeat' constructor))
   rw [hs2]
   exact PA.lp (i+1) xE ⟨hin,by omega⟩
  ·rw [if_neg h] at hsu
   rw [zF h] at hc
   repeat'(first|apply Sp.h|refine Lk.r rfl ?_|refine Rf.mk rfl ?_|refine xA ?_|refine xI ?_|refine xO ?_|(apply Cl.p (hc);focus repeat' constructor))
   rw [←hsu]
   exact PA.lp (i+1) xE ⟨hin,by omega⟩
 ·have:i=a.length:=by omega
  subst this
  rw [zL] at hcn ⊢
  repeat'(first|apply Sp.h|refine Lk.r rfl ?_|refine Rf.mk rfl ?_|refine xB ?_|refine xP ?_|apply Im.mk|refine xN ?_|intro _)
  exact Fin.p rfl (vb (by unfold majF;exact zD.2 (by omega)))
theorem win_a(p:Nat)(v:Value)(e:EleN)(vs:List Int)(hl:vs.length≤1000000)(hv:e.votes.length≤4000000000000000000) : CallA Try.prog 55 [pm p,ints vs] (eleR p v e) fun r own=>r=bl (majF vs e.votes)∧∃v',own=eleR p v' (winF e vs):=by
 have hm:=majority_p vs e.votes hl
 unfold winF
 generalize majF vs e.votes=b at hm ⊢
 refine CallA.of pg ordZ Try.func55 rfl Try.ntmps55 Try.results55 rfl fun h0 G0 O0=>?_
 repeat'(first|apply Sp.h|refine Lk.r rfl ?_|refine Rf.mk rfl ?_|refine xT ?_|fail)
 (apply Cl.lend (hm);(focus repeat'(first|exact Lend.nil|apply Lend.keep|(apply Lend.lend;(focus repeat constructor);(focus first|omega|(simp;omega)))|fail)))
 cases b
 ·repeat'(first|apply Sp.h|refine Lk.r rfl ?_|refine Rf.mk rfl ?_|refine xB ?_|refine xN ?_|fail)
  exact⟨_,_, .one (.same (.z)),rfl,_,rfl⟩
 ·repeat'(first|apply Sp.h|refine Lk.r rfl ?_|refine Rf.mk rfl ?_|refine xA ?_|refine xT ?_|refine xV ?_|refine xN ?_|fail)
  exact⟨_,_, .one (.same (.z)),rfl,_,rfl⟩
theorem other_a(p:Nat)(v:Value)(e:EleN)(r:Int) : CallA Try.prog 97 [pm p,it r] (eleR p v e) fun x own=>x=bl (othF e.n e.i r)∧own=eleR p v e:=by
 refine CallA.of pg ordZ Try.func97 rfl Try.ntmps97 Try.results97 rfl fun h0 G0 O0=>?_
 repeat'(first|apply Sp.h|refine Lk.r rfl ?_|refine Rf.mk rfl ?_|refine xA ?_|refine xB ?_|apply Bd.mk|refine xT ?_|refine xN ?_|intro _)
 all_goals exact⟨_,_, .one (.same (.z)),vb (by first|exact(zT (by omega)).symm|exact(zF (by omega)).symm|exact zD.2 (by omega)),rfl⟩
end Go.Proofs.Ythlpimbhonihhaa
namespace Go.CF
open Go
section
variable {Γ:Cx} {k:List KI} {e:EA} {o:List Res} {N:NA} {c:Cls} {d:Tmp} {ty:TypeId} {x y z:Operand} {t u:TypeId}
end
section
variable {P:Program} {tt:Nat→Option TI} {en:Nat→Bool} {n:Nat} {env:Env} {h:Heap} {N:Env→Heap→Prop} {γ:Type} [Membership Nat γ] {fp:γ} {c:Cls} {d:Tmp} {ty t u:TypeId} {x y z:Operand} {k1:IntKind}
end
section
variable {Γ:Cx} {k:List KI} {e:EA} {o:List Res} {N:NA} {c:Cls} {d:Tmp} {ty:TypeId} {x y z:Operand} {t u:TypeId} {kk kk':IntKind} {i i':Int}
end
structure Stopped (p:Prop):Prop where
 h:p
theorem Stopped.out{p:Prop}(h:Stopped p) : p:=h.h
end Go.CF
namespace Go.Proofs.Ythlpimbhonihhaa
open Go Go.CF
structure EleOK (e:EleN):Prop where
 n:1≤e.n∧e.n≤5
 i:0≤e.i∧e.i < e.n
 t:0≤e.term∧e.term≤1048576
 s:0≤e.silent∧e.silent≤100
instance {kind frm to term index logt:Int} {g:Bool} : Inv msgC [it kind,it frm,it to, .val (.slice none 0 0), .val (.slice none 0 0), .val (.slice none 0 0),it 0,it 0,it 0,it 0,it 0, .val (.slice none 0 0),it term,it index,it logt,it 0, .val (.bool g), .val (.slice none 0 0)] (msg0 kind frm to term index logt g):=⟨rfl⟩
theorem etick_a(p:Nat)(v:Value)(e:EleN)(vs:List Int)(index term:Int)(he:EleOK e)(hl:vs.length≤1000000) :
  CallA Try.prog 32 [pm p,ints vs,it index,it term] (eleR p v e) fun r own=>∃v' w,r= .ow w∧own=arrR w 76 18 (tickF e vs index term).2 msgC :: eleR p v' (tickF e vs index term).1:=by
 obtain⟨n1,n2⟩:=he.n
 obtain⟨i1,i2⟩:=he.i
 obtain⟨t1,t2⟩:=he.t
 obtain⟨s1,s2⟩:=he.s
 unfold tickF
 by_cases hr:e.role=2
 ·rw [if_pos hr]
  refine CallA.of pg ord32 Try.func32 rfl Try.ntmps32 Try.results32 rfl fun h0 G0 O0=>?_
  repeat'(first|apply Sp.h|refine Lk.r rfl ?_|refine Rf.mk rfl ?_|refine xA ?_|refine xT ?_|refine xN ?_|fail)
  exact⟨_,_, .one (.nils (.z)),_,_,rfl,rfl⟩
 rw [if_neg hr]
 by_cases hs:e.silent+1 < 10+3 * e.i
 ·rw [if_pos hs]
  refine CallA.of pg ord32 Try.func32 rfl Try.ntmps32 Try.results32 rfl fun h0 G0 O0=>?_
  repeat'(first|apply Sp.h|refine Lk.r rfl ?_|refine Rf.mk rfl ?_|refine xA ?_|refine xB ?_|refine OpK.r rfl ?_|refine xP ?_|refine xT ?_|refine xV ?_|refine xN ?_|refine xD ?_|refine xO ?_|fail)
  exact⟨_,_, .one (.nils (.z)),_,_,rfl,rfl⟩
 rw [if_neg hs]
 have hc:=contains_p vs e.i
 by_cases hd:¬e.i∈vs∨1048576≤e.term
 ·rw [if_pos hd]
  refine CallA.of pg ord32 Try.func32 rfl Try.ntmps32 Try.results32 rfl fun h0 G0 O0=>?_
  by_cases hm:e.i∈vs
  ·rw [zT hm] at hc
   repeat'(first|apply Sp.h|refine Lk.r rfl ?_|refine Rf.mk rfl ?_|refine xA ?_|refine xB ?_|(refine Bd.mk ?_ ?_ <;> intro _)|refine OpK.r rfl ?_|refine xP ?_|refine All.mk fun _=>?_|refine xT ?_|refine xV ?_|(apply Fk.r;focus repeat' first|infer_instance|constructor)|refine xN ?_|refine Rf.mk ⟨rfl,rfl,rfl⟩ ?_|refine xD ?_|exact trivial|apply RA'.both|refine xO ?_|(apply Cl.p (hc);focus repeat' constructor))
   all_goals first
    | exact⟨_,_, .one (.nils (.z)),_,_,rfl,rfl⟩
    | exact(by have:=hd.resolve_left (fun h=>h hm);omega:False).elim
  ·rw [zF hm] at hc
   repeat'(first|apply Sp.h|refine Lk.r rfl ?_|refine Rf.mk rfl ?_|refine xB ?_|refine OpK.r rfl ?_|refine xP ?_|refine xT ?_|refine xV ?_|refine xN ?_|refine xD ?_|refine xO ?_|(apply Cl.p (hc);focus repeat' constructor))
   all_goals exact⟨_,_, .one (.nils (.z)),_,_,rfl,rfl⟩
 rw [if_neg hd]
 have hm:e.i∈vs:=Classical.byContradiction fun h=>hd (.inl h)
 have ht:e.term < 1048576:=by
  have:=fun h=>hd (.inr h)
  omega
 rw [zT hm] at hc
 have hw:=fun u=>win_a p u { e with term:=e.term+1,vote:=e.i,role:=1,leader:= -1,votes:= [e.i],silent:=0 } vs hl (by simp)
 have hst:winF { e with term:=e.term+1,vote:=e.i,role:=1,leader:= -1,votes:= [e.i],silent:=0 } vs=standF e vs:=rfl
 simp only [hst] at hw
 obtain⟨z,hz⟩:∃z,z=standF e vs:=⟨_,rfl⟩
 have hzi:z.i=e.i:=by rw [hz,standF,winF];split <;> rfl
 have hzt:z.term=e.term+1:=by rw [hz,standF,winF];split <;> rfl
 rw [←hz] at hw ⊢
 generalize majF vs [e.i]=b at hw ⊢
 clear hz hst
 refine CallA.of pg ord32 Try.func32 rfl Try.ntmps32 Try.results32 rfl fun h0 G0 O0=>?_
 (repeat'(first|(show CA _ _ (Code.region 9 _ _) _ _;apply Stopped.out)|apply Sp.h|refine Lk.r rfl ?_|refine Rf.mk rfl ?_|refine xA ?_|refine xB ?_|refine OpK.r rfl ?_|refine xP ?_|refine xT ?_|refine xV ?_|refine xD ?_|refine xO ?_|(apply Cl.p (hc);focus repeat' constructor)));any_goals apply Stopped.mk
 refine CA.cut (fun u:Value=>⟨[(0,pm p),(1,ints vs),(2,it index),(3,it term)],[blkR p 93 (eleC { e with term:=e.term+1,vote:=e.i,role:=1,leader:= -1,votes:= [e.i],silent:=0 } u),arrR u 3 1 [[it e.i]] id]⟩) (fun _=>True) ?_ ?_
 ·repeat'(first|apply Sp.h|refine Lk.r rfl ?_|refine Rf.mk rfl ?_|refine OpK.r rfl ?_|apply All.mk|refine xT ?_|refine xV ?_|(apply Fk.r;focus repeat' first|infer_instance|constructor)|refine Rf.mk ⟨rfl,rfl,rfl⟩ ?_|refine xD ?_|exact trivial|apply RA'.both|refine xO ?_|intro _)
  all_goals exact PA.lp _ xE trivial
 rintro u -
 (repeat'(first|(show CA _ _ (Code.region 10 _ _) _ _;apply Stopped.out)|apply Sp.h|fail));any_goals apply Stopped.mk
 apply CA.retype (v:=u) (m:= [e.i]) (g:=intC)
 focus(repeat constructor)
 focus rfl
 have hwu:=hw u
 repeat'(first|apply Sp.h|refine Lk.r rfl ?_|refine Rf.mk rfl ?_|fail)
 refine xW (hwu) ?_
 rintro _ _ ⟨rfl,v1,rfl⟩
 cases b
 rotate_left
 ·repeat'(first|apply Sp.h|refine Lk.r rfl ?_|refine Rf.mk rfl ?_|refine xN ?_|fail)
  exact⟨_,_, .one (.nils (.z)),_,_,rfl,rfl⟩
 rw [if_neg Bool.false_ne_true]
 repeat'(first|apply Sp.h|refine Lk.r rfl ?_|refine Rf.mk rfl ?_|apply Im.mk|intro _)
 refine CA.nilOwn 9 76 18 msgC rfl fun w0=>?_
 refine CA.loop (fun x:Nat×Value=>⟨[(0,pm p),(1,ints vs),(2,it index),(3,it term),(9, .ow x.2),(84,ints vs),(85,it (vs.length:Nat)),(86,it x.1)],arrR x.2 76 18 (askF z (vs.take x.1) index term) msgC :: eleR p v1 z⟩) (fun x=>x.1≤vs.length) (fun x=>vs.length - x.1) (0,w0) xE (zZ _) ?_
 rintro⟨i,w⟩ hi
 simp only at hi
 simp only
 have hfl:(askF z (vs.take i) index term).length≤i:=by
  have h1:=List.length_filter_le (fun v=>decide (v≠z.i)) (vs.take i)
  rw [zN] at h1
  unfold askF
  rw [List.length_map]
  omega
 by_cases hin:i < vs.length
 ·obtain⟨x,hx⟩:=get_of hin
  have hsu:askF z (vs.take (i+1)) index term=askF z (vs.take i) index term ++ if x≠z.i then [msg0 5 z.i x z.term index term false] else []:=by
   unfold askF
   rw [zK,hx,Option.toList_some,List.filter_append,List.map_append]
   by_cases h:x=z.i <;> simp [h]
  by_cases h:x=z.i
  ·rw [if_neg (fun h9=>h9 h),List.append_nil] at hsu
   repeat'(first|apply Sp.h|refine Lk.r rfl ?_|refine Rf.mk rfl ?_|refine xA ?_|refine xT ?_|refine xI ?_|refine xO ?_|fail)
   rw [←hsu]
   all_goals exact PA.lp (i+1,w) xE ⟨hin,by simp only;omega⟩
  ·rw [if_pos h] at hsu
   repeat'(first|apply Sp.h|refine Lk.r rfl ?_|refine Rf.mk rfl ?_|refine xA ?_|refine xB ?_|refine OpK.r rfl ?_|refine xP ?_|apply All.mk|refine xU ?_|refine xT ?_|refine xI ?_|refine Ce.r ?_|(apply Fk.r;focus repeat' first|infer_instance|constructor)|refine Rf.mk ⟨rfl,rfl⟩ ?_|refine Rf.mk ⟨rfl,rfl,rfl⟩ ?_|(apply Mp.lit;(focus repeat(first|exact MpL.nil|(apply MpL.cons;(focus rfl))|(apply MpL.inv;(focus repeat constructor);(focus infer_instance)))))|refine xD ?_|refine xO ?_|intro _)
   rw [←hsu]
   all_goals exact PA.lp (i+1,_) xE ⟨hin,by simp only;omega⟩
 ·have:i=vs.length:=by omega
  subst this
  rw [zL]
  repeat'(first|apply Sp.h|refine Lk.r rfl ?_|refine Rf.mk rfl ?_|refine xB ?_|refine xN ?_|fail)
  exact⟨_,_, .one (.same (.z)),_,_,rfl,rfl⟩
theorem follow_a(p:Nat)(v:Value)(e:EleN)(l t:Int) : CallA Try.prog 100 [pm p,it l,it t] (eleR p v e) fun r own=>r=bl (followF e l t).2∧∃v',own=eleR p v' (followF e l t).1:=by
 have ho:=other_a p v e l
 have hs:=see_a p v e t
 unfold followF
 generalize othF e.n e.i l=b at ho ⊢
 refine CallA.of pg ordZ Try.func100 rfl Try.ntmps100 Try.results100 rfl fun h0 G0 O0=>?_
 repeat'(first|apply Sp.h|refine Lk.r rfl ?_|refine Rf.mk rfl ?_|fail)
 refine xW (ho) ?_
 rintro _ _ ⟨rfl,rfl⟩
 by_cases h1:b=false∨t < 1∨1048576 < t
 ·rw [if_pos h1]
  cases b
  ·repeat'(first|apply Sp.h|refine Lk.r rfl ?_|refine Rf.mk rfl ?_|refine xB ?_|refine xN ?_|fail)
   all_goals exact⟨_,_, .one (.same (.z)),rfl,_,rfl⟩
  ·repeat'(first|apply Sp.h|refine Lk.r rfl ?_|refine Rf.mk rfl ?_|refine xA ?_|refine xB ?_|apply Bd.mk|refine xN ?_|intro _)
   all_goals first
    | exact⟨_,_, .one (.same (.z)),rfl,_,rfl⟩
    | exact(by have:=h1.resolve_left (fun h=>by cases h);omega:False).elim
 rw [if_neg h1]
 have hb:b=true:=by cases b;exact absurd (.inl rfl) h1;rfl
 subst hb
 have h2:¬t < 1:=fun h=>h1 (.inr (.inl h))
 have h3:¬1048576 < t:=fun h=>h1 (.inr (.inr h))
 generalize seeF e t=z at hs ⊢
 repeat'(first|apply Sp.h|refine Lk.r rfl ?_|refine Rf.mk rfl ?_|refine xA ?_|refine xB ?_|fail)
 refine xW (hs) ?_
 rintro _ _ ⟨rfl,v1,rfl⟩
 by_cases h4:t≠z.term∨z.role=2
 ·rw [if_pos h4]
  repeat'(first|apply Sp.h|refine Lk.r rfl ?_|refine Rf.mk rfl ?_|refine xA ?_|refine xB ?_|apply Bd.mk|refine xT ?_|refine xN ?_|intro _)
  all_goals first
   | exact⟨_,_, .one (.same (.z)),rfl,_,rfl⟩
   | exact(by omega:False).elim
 ·rw [if_neg h4]
  repeat'(first|apply Sp.h|refine Lk.r rfl ?_|refine Rf.mk rfl ?_|refine xA ?_|refine xB ?_|refine xT ?_|refine xV ?_|refine xN ?_|fail)
  all_goals first
   | exact⟨_,_, .one (.same (.z)),rfl,_,rfl⟩
   | exact(by omega:False).elim
end Go.Proofs.Ythlpimbhonihhaa
namespace Go.CF
open Go
def AV.fb(f:FuncId)(bs:List AV) : AV:=⟨fun h G u=>∃vs,u= .func (.func f) vs.toArray #[]∧RepT h G vs bs,by rintro h h' G v x ⟨vs,e,r⟩;exact⟨vs,e,r.stp x⟩,by rintro h G G' v x ⟨vs,e,r⟩;exact⟨vs,e,r.mono x⟩⟩
section
variable {Γ:Cx} {k:List KI} {e:EA} {o:List Res} {N:NA} {c:Cls} {d:Tmp} {ty:TypeId} {x y:Operand}
instance {f:FuncId} : Sp (SA Γ c (some d) (.makeFunc (.func f) #[x] #[]) ty e o N) (Lk (evAs e [x]) fun cs=>N ((d, .fb f cs) :: e) o):=⟨fun⟨cs,hcs,hn⟩=>⟨fun env hp G Os c=>by
 obtain⟨vs,h1,h2⟩:=c.gets hcs
 exact St.makeFunc (l2:= []) h1 rfl (CN.mk (c.put d (a:= .fb f cs) ⟨vs,rfl,h2⟩) hn)⟩⟩
instance {f:FuncId} {cs asx:List AV} {args:Array Operand} {tys:Array TypeId} : Sp (ClF Γ c d x args tys ty e o N (.fb f cs) asx) (Rf (Γ.fp.n=none) (Rf (Γ.en f=true) (Cl Γ c f (cs ++ asx) o fun r o'=>N ((d,r) :: e) o'))):=⟨fun⟨hfp,he,h⟩=>⟨fun ha hb hc=>⟨fun env hh G Os cn=>by
 obtain⟨v,g1,ws,rfl,g2⟩:=cn.get ha
 obtain⟨vs,g3,g4⟩:=cn.gets hb
 exact St.callT (cap:= []) Γ.ok g1 g3 he hc (by rw [List.append_nil];exact(cl_sa (dst:=some d) cn (g2.app g4) hfp h).mono fun v h' hk=>hk.2)⟩⟩⟩
end
end Go.CF
namespace Go.Proofs.Ythlpimbhonihhaa
open Go Go.CF
abbrev msgA (m:MsgS):AV:= .agg (msgC m)
def balC(p:Nat)(m:MsgS)(vs:List Int)(index last:Int) : List AV:=pm p :: (msgC m ++ [ints vs,it index,it last])
theorem asked_a(p:Nat)(v:Value)(e:EleN)(m:MsgS)(vs:List Int)(index last:Int) :
  CallA Try.prog 95 [.agg (balC p m vs index last)] (eleR p v e) fun r own=>∃v' w,r= .ow w∧own=arrR w 76 18 (askedF e m index last).2 msgC :: eleR p v' (askedF e m index last).1:=by
 unfold askedF grantF
 obtain⟨gd,hgd⟩:∃gd,gd=goodF m index last:=⟨_,rfl⟩
 obtain⟨g,hg⟩:∃g,g=(decide (m.term=e.term∧(e.vote= -1∨e.vote=m.frm)) && gd):=⟨_,rfl⟩
 rw [←hgd,←hg]
 unfold goodF at hgd
 refine CallA.of pg ord95 Try.func95 rfl Try.ntmps95 Try.results95 rfl fun h0 G0 O0=>?_
 (repeat'(first|(show CA _ _ (Code.region 1 _ _) _ _;apply Stopped.out)|apply Sp.h|refine Lk.r rfl ?_|refine Rf.mk rfl ?_|apply All.mk|intro _));any_goals apply Stopped.mk
 rename_i b1
 refine CA.cut (fun z:Bool=>⟨[(1,pm b1),(3,bl z)],blkR b1 156 (balC p m vs index last) :: eleR p v e⟩) (fun z=>z=gd) ?_ ?_
 ·by_cases h1:last < m.logt
  ·repeat'(first|apply Sp.h|refine Lk.r rfl ?_|refine Rf.mk rfl ?_|refine xA ?_|refine xT ?_|fail)
   all_goals exact PA.lp _ xE (by rw [hgd];exact(zT (.inl h1)).symm)
  by_cases h2:m.logt=last
  rotate_left
  ·repeat'(first|apply Sp.h|refine Lk.r rfl ?_|refine Rf.mk rfl ?_|refine xB ?_|refine xT ?_|fail)
   all_goals exact PA.lp _ xE (by rw [hgd];exact(zF (fun h=>h.elim h1 fun h=>h2 h.1)).symm)
  ·repeat'(first|apply Sp.h|refine Lk.r rfl ?_|refine Rf.mk rfl ?_|refine xA ?_|refine xB ?_|refine xT ?_|fail)
   all_goals exact PA.lp _ xE (by rw [hgd];first|exact zD.2 (by omega)|exact(zT (by omega)).symm|exact(zF (by omega)).symm)
 rintro _ rfl
 (repeat'(first|(show CA _ _ (Code.region 2 _ _) _ _;apply Stopped.out)|apply Sp.h|fail));any_goals apply Stopped.mk
 refine CA.cut (fun z:Bool=>⟨[(1,pm b1),(4,bl z)],blkR b1 156 (balC p m vs index last) :: eleR p v e⟩) (fun z=>z=g) ?_ ?_
 ·by_cases h1:m.term=e.term
  rotate_left
  ·rw [zF (fun h=>h1 h.1),Bool.false_and] at hg
   repeat'(first|apply Sp.h|refine Lk.r rfl ?_|refine Rf.mk rfl ?_|refine xB ?_|refine OpK.r rfl ?_|refine xT ?_|refine xD ?_|fail)
   all_goals exact PA.lp _ xE (by rw [hg])
  by_cases h2:e.vote= -1
  ·rw [zT ⟨h1, .inl h2⟩,Bool.true_and] at hg
   repeat'(first|apply Sp.h|refine Lk.r rfl ?_|refine Rf.mk rfl ?_|refine xA ?_|refine OpK.r rfl ?_|refine xT ?_|refine xD ?_|fail)
   all_goals exact PA.lp _ xE (by rw [hg])
  by_cases h3:e.vote=m.frm
  ·rw [zT ⟨h1, .inr h3⟩,Bool.true_and] at hg
   repeat'(first|apply Sp.h|refine Lk.r rfl ?_|refine Rf.mk rfl ?_|refine xA ?_|refine xB ?_|refine OpK.r rfl ?_|refine xT ?_|refine xD ?_|fail)
   all_goals exact PA.lp _ xE (by rw [hg])
  ·rw [zF (fun h=>h.2.elim h2 h3),Bool.false_and] at hg
   repeat'(first|apply Sp.h|refine Lk.r rfl ?_|refine Rf.mk rfl ?_|refine xA ?_|refine xB ?_|refine OpK.r rfl ?_|refine xT ?_|refine xD ?_|fail)
   all_goals exact PA.lp _ xE (by rw [hg])
 rintro z rfl
 clear hg
 cases z
 ·repeat'(first|apply Sp.h|refine Lk.r rfl ?_|refine Rf.mk rfl ?_|refine OpK.r rfl ?_|apply All.mk|refine xT ?_|(apply Fk.r;focus repeat' first|infer_instance|constructor)|refine xN ?_|refine Rf.mk ⟨rfl,rfl,rfl⟩ ?_|refine xD ?_|intro _)
  all_goals exact⟨_,_ :: eleR p v e, .one (.same (.nil (Subl.cons .here (by(repeat first|exact .nil|refine .cons (by repeat constructor) ?_))))),_,_,rfl,congrArg (fun R=>R :: eleR p v e) (arrR_eq rfl)⟩
 ·repeat'(first|apply Sp.h|refine Lk.r rfl ?_|refine Rf.mk rfl ?_|refine OpK.r rfl ?_|apply All.mk|refine xT ?_|refine xV ?_|(apply Fk.r;focus repeat' first|infer_instance|constructor)|refine xN ?_|refine Rf.mk ⟨rfl,rfl,rfl⟩ ?_|refine xD ?_|exact trivial|apply RA'.both|intro _)
  all_goals exact⟨_,_ :: eleR p v { e with vote:=m.frm,silent:=0 }, .one (.same (.nil (Subl.cons .here (by(repeat first|exact .nil|refine .cons (by repeat constructor) ?_))))),_,_,rfl,congrArg (fun R=>R :: eleR p v { e with vote:=m.frm,silent:=0 }) (arrR_eq rfl)⟩
def vtdO : Nat→Ord×(Nat→Cls):=fun id=>bif Nat.beq id 1 then(.one 0 (.one 1 (.one 2 (.one 3 (.one 4 (.one 5 (.one 6 (.one 7 (.one 8 (.one 9 (.one 10 (.one 11 (.one 12 (.one 13 (.one 14 (.one 15 (.one 16 (.one 17 (.one 18 (.one 19 (.one 20 (.one 21 .done))))))))))))))))))))),clOf [.pure, .read, .pure, .pure, .read, .pure, .pure, .pure, .pure, .read, .pure, .read, .pure, .pure, .read, .pure, .pure, .pure, .pure, .pure, .read, .pure]) else bif Nat.beq id 2 then(.one 0 (.one 2 (.one 3 (.one 4 (.one 5 (.one 6 (.one 7 (.one 8 (.one 9 (.alt 1 (.one 10 (.one 11 (.one 12 (.one 13 (.one 14 .done))))) (.alt 10 (.alt 1 (.one 11 (.one 12 (.one 13 (.one 14 .done)))) (.alt 11 (.one 1 (.one 12 (.one 13 (.one 14 .done)))) (.none))) (.none))))))))))),clOf [.pure, .ext, .pure, .read, .pure, .pure, .read, .pure, .pure, .read, .ext, .loud, .pure, .pure, .loud]) else(.done,clOf [])
theorem voted_a(p:Nat)(v:Value)(e:EleN)(m:MsgS)(vs:List Int)(index last:Int)(hl:vs.length≤1000000)(hv:e.votes.length≤50000000000) :
  CallA Try.prog 96 [.agg (balC p m vs index last)] (eleR p v e) fun r own=>∃v' w,r= .ow w∧own=arrR w 76 18 [] msgC :: eleR p v' (votedF e m vs):=by
 unfold votedF
 by_cases h:e.role=1∧m.term=e.term∧m.granted=true
 rotate_left
 ·rw [if_neg h]
  refine CallA.of pg ord96 Try.func96 rfl Try.ntmps96 Try.results96 rfl fun h0 G0 O0=>?_
  by_cases h1:e.role=1
  rotate_left
  ·repeat'(first|apply Sp.h|refine Lk.r rfl ?_|refine Rf.mk rfl ?_|refine xB ?_|refine OpK.r rfl ?_|apply All.mk|refine xT ?_|refine xN ?_|refine xD ?_|intro _)
   all_goals exact⟨_,_, .one (.nils (.z)),_,_,rfl,rfl⟩
  by_cases h2:m.term=e.term
  rotate_left
  ·repeat'(first|apply Sp.h|refine Lk.r rfl ?_|refine Rf.mk rfl ?_|refine xA ?_|refine xB ?_|refine OpK.r rfl ?_|apply All.mk|refine xT ?_|refine xN ?_|refine xD ?_|intro _)
   all_goals exact⟨_,_, .one (.nils (.z)),_,_,rfl,rfl⟩
  ·have h3:m.granted=false:=by cases hg:m.granted;rfl;exact absurd ⟨h1,h2,hg⟩ h
   unfold balC msgC
   rw [h3]
   repeat'(first|apply Sp.h|refine Lk.r rfl ?_|refine Rf.mk rfl ?_|refine xA ?_|refine OpK.r rfl ?_|apply All.mk|refine xT ?_|refine xN ?_|refine xD ?_|intro _)
   all_goals exact⟨_,_, .one (.nils (.z)),_,_,rfl,rfl⟩
 rw [if_pos h]
 obtain⟨h1,h2,h3⟩:=h
 have hw:=fun u=>win_a p u { e with votes:=e.votes ++ [m.frm] } vs hl (by simp;omega)
 generalize winF { e with votes:=e.votes ++ [m.frm] } vs=z at hw ⊢
 refine CallA.of pg vtdO Try.func96 rfl Try.ntmps96 Try.results96 rfl fun h0 G0 O0=>?_
 unfold balC msgC
 rw [h3]
 repeat'(first|apply Sp.h|refine Lk.r rfl ?_|refine Rf.mk rfl ?_|refine xA ?_|refine OpK.r rfl ?_|refine xP ?_|apply All.mk|refine xU ?_|refine xT ?_|refine Ce.r ?_|refine xV ?_|(apply Fk.r;focus repeat' first|infer_instance|constructor)|refine Rf.mk ⟨rfl,rfl⟩ ?_|refine Rf.mk ⟨rfl,rfl,rfl⟩ ?_|(apply Mp.lit;(focus repeat(first|exact MpL.nil|(apply MpL.cons;(focus rfl))|(apply MpL.inv;(focus repeat constructor);(focus infer_instance)))))|refine xD ?_|exact trivial|apply RA'.both|intro _)
 all_goals
  refine xW (hw _) ?_
  rintro _ _ ⟨rfl,v1,rfl⟩
  repeat'(first|apply Sp.h|refine Lk.r rfl ?_|refine Rf.mk rfl ?_|refine xN ?_|fail)
  exact⟨_,_, .one (.nils (.z)),_,_,rfl,rfl⟩
abbrev fbE (p:FuncId×List AV):AV:= .fb p.1 p.2
theorem see_votes{e:EleN}{t:Int}(h:e.votes.length≤50000000000) : (seeF e t).votes.length≤50000000000:=by
 unfold seeF
 split
 ·simp
 ·exact h
abbrev hndL (p:Nat) (m:MsgS) (vs:List Int) (index last:Int):List (List Int×(FuncId×List AV)):=updL (updL [] [5] (95,[AV.agg (balC p m vs index last)])) [6] (96,[AV.agg (balC p m vs index last)])
theorem receive_a(p:Nat)(v:Value)(e:EleN)(m:MsgS)(vs:List Int)(index last:Int)(hl:vs.length≤1000000)(hv:e.votes.length≤50000000000) :
  CallA Try.prog 76 [pm p,msgA m,ints vs,it index,it last] (eleR p v e) fun r own=>∃v' w,r= .ow w∧own=arrR w 76 18 (recvF e m vs index last).2 msgC :: eleR p v' (recvF e m vs index last).1:=by
 have ho:=other_a p v e m.frm
 have hs:=see_a p v e m.term
 have ha:=fun u=>asked_a p u (seeF e m.term) m vs index last
 have hd:=fun u=>voted_a p u (seeF e m.term) m vs index last hl (see_votes hv)
 unfold recvF
 generalize seeF e m.term=z at hs ha hd ⊢
 generalize othF e.n e.i m.frm=b at ho ⊢
 by_cases hk:m.kind=5∨m.kind=6
 rotate_left
 ·rw [if_pos (.inl hk)]
  have hn:lookL (hndL p m vs index last) [m.kind]=none:=by
   have h1:¬m.kind=5:=fun h=>hk (.inl h)
   have h2:¬m.kind=6:=fun h=>hk (.inr h)
   rw [lookL_upd,if_neg (by simpa using h2),lookL_upd,if_neg (by simpa using h1)];rfl
  refine CallA.of pg ord76 Try.func76 rfl Try.ntmps76 Try.results76 rfl fun h0 G0 O0=>?_
  repeat'(first|apply Sp.h|refine Lk.r rfl ?_|refine Rf.mk rfl ?_|apply All.mk|refine xT ?_|refine Ch.l ⟨rfl,rfl⟩ ?_|(apply SetAsk.r;focus repeat' constructor)|(apply Fk.r;focus repeat' first|infer_instance|constructor)|refine xN ?_|intro _)
  refine MkM.r fbE ?_
  repeat'(first|apply Sp.h|refine Lk.r rfl ?_|refine Rf.mk rfl ?_|apply All.mk|refine xT ?_|refine Ch.l ⟨rfl,rfl⟩ ?_|(apply Kf.mk;(focus kernel_rfl))|refine xM ?_|intro _)
  refine UpV.r (v:=(95,[AV.agg (balC p m vs index last)])) rfl ?_
  repeat'(first|apply Sp.h|refine Lk.r rfl ?_|refine Rf.mk rfl ?_|refine xT ?_|refine Ch.l ⟨rfl,rfl⟩ ?_|(apply Kf.mk;(focus kernel_rfl))|refine xM ?_|fail)
  refine UpV.r (v:=(96,[AV.agg (balC p m vs index last)])) rfl ?_
  repeat'(first|apply Sp.h|refine Lk.r rfl ?_|refine Rf.mk rfl ?_|refine xB ?_|refine OpK.r rfl ?_|refine xT ?_|refine xN ?_|(apply Kf.mk;(focus kernel_rfl))|refine xM ?_|apply Zx.one|(apply LkM.n;(focus first|assumption|rfl))|refine xD ?_|fail)
  all_goals exact⟨_,_, .one (.nils (.z)),_,_,rfl,rfl⟩
 have hsome:∃f L z',lookL (hndL p m vs index last) [m.kind]=some (f,[AV.agg (balC p m vs index last)])∧en f=true∧(∀u,CallA Try.prog f [AV.agg (balC p m vs index last)] (eleR p u z) fun r own=>∃v' w,r= .ow w∧own=arrR w 76 18 L msgC :: eleR p v' z')∧(if m.kind=5 then askedF z m index last else(votedF z m vs,[]))=(z',L):=by
  by_cases h5:m.kind=5
  ·refine⟨_,_,_, ?_, ?_,ha, ?_⟩
   ·rw [lookL_upd,if_neg (by simp [h5]),lookL_upd,if_pos (by simp [h5])]
   ·rfl
   ·rw [if_pos h5]
  ·have h6:m.kind=6:=hk.resolve_left h5
   refine⟨_,_,_, ?_, ?_,hd, ?_⟩
   ·rw [lookL_upd,if_pos (by simp [h6])]
   ·rfl
   ·rw [if_neg h5]
 obtain⟨f,L,z',hf,hen,hc,hF⟩:=hsome
 rw [hF]
 clear ha hd hF
 refine CallA.of pg ord76 Try.func76 rfl Try.ntmps76 Try.results76 rfl fun h0 G0 O0=>?_
 repeat'(first|apply Sp.h|refine Lk.r rfl ?_|refine Rf.mk rfl ?_|apply All.mk|refine xT ?_|refine Ch.l ⟨rfl,rfl⟩ ?_|(apply SetAsk.r;focus repeat' constructor)|(apply Fk.r;focus repeat' first|infer_instance|constructor)|refine xN ?_|intro _)
 refine MkM.r fbE ?_
 repeat'(first|apply Sp.h|refine Lk.r rfl ?_|refine Rf.mk rfl ?_|apply All.mk|refine xT ?_|refine Ch.l ⟨rfl,rfl⟩ ?_|(apply Kf.mk;(focus kernel_rfl))|refine xM ?_|intro _)
 refine UpV.r (v:=(95,[AV.agg (balC p m vs index last)])) rfl ?_
 repeat'(first|apply Sp.h|refine Lk.r rfl ?_|refine Rf.mk rfl ?_|refine xT ?_|refine Ch.l ⟨rfl,rfl⟩ ?_|(apply Kf.mk;(focus kernel_rfl))|refine xM ?_|fail)
 refine UpV.r (v:=(96,[AV.agg (balC p m vs index last)])) rfl ?_
 by_cases h1:m.to=e.i
 rotate_left
 ·rw [if_pos (.inr (.inl h1))]
  repeat'(first|apply Sp.h|refine Lk.r rfl ?_|refine Rf.mk rfl ?_|refine xA ?_|refine xB ?_|refine OpK.r rfl ?_|refine xT ?_|refine xN ?_|(apply Kf.mk;(focus kernel_rfl))|refine xM ?_|(apply LkM.s;(focus first|assumption|rfl))|refine xD ?_|fail)
  all_goals exact⟨_,_, .one (.nils (.z)),_,_,rfl,rfl⟩
 cases b
 ·rw [if_pos (.inr (.inr (.inl rfl)))]
  repeat'(first|apply Sp.h|refine Lk.r rfl ?_|refine Rf.mk rfl ?_|refine xA ?_|refine xB ?_|refine OpK.r rfl ?_|refine xT ?_|refine xN ?_|(apply Kf.mk;(focus kernel_rfl))|refine xM ?_|(apply LkM.s;(focus first|assumption|rfl))|refine xD ?_|(((apply Cl.use (ho);(focus repeat' constructor);(focus repeat' constructor);focus rfl));(rintro _ _ ⟨rfl,rfl⟩)))
  all_goals exact⟨_,_, .one (.nils (.z)),_,_,rfl,rfl⟩
 by_cases h2:m.term < 1
 ·rw [if_pos (.inr (.inr (.inr (.inl h2))))]
  repeat'(first|apply Sp.h|refine Lk.r rfl ?_|refine Rf.mk rfl ?_|refine xA ?_|refine OpK.r rfl ?_|refine xT ?_|refine xN ?_|(apply Kf.mk;(focus kernel_rfl))|refine xM ?_|(apply LkM.s;(focus first|assumption|rfl))|refine xD ?_|(((apply Cl.use (ho);(focus repeat' constructor);(focus repeat' constructor);focus rfl));(rintro _ _ ⟨rfl,rfl⟩)))
  all_goals exact⟨_,_, .one (.nils (.z)),_,_,rfl,rfl⟩
 by_cases h3:1048576 < m.term
 ·rw [if_pos (.inr (.inr (.inr (.inr h3))))]
  repeat'(first|apply Sp.h|refine Lk.r rfl ?_|refine Rf.mk rfl ?_|refine xA ?_|refine xB ?_|refine OpK.r rfl ?_|refine xT ?_|refine xN ?_|(apply Kf.mk;(focus kernel_rfl))|refine xM ?_|(apply LkM.s;(focus first|assumption|rfl))|refine xD ?_|(((apply Cl.use (ho);(focus repeat' constructor);(focus repeat' constructor);focus rfl));(rintro _ _ ⟨rfl,rfl⟩)))
  all_goals exact⟨_,_, .one (.nils (.z)),_,_,rfl,rfl⟩
 rw [if_neg (fun h=>h.elim (fun h=>h hk) fun h=>h.elim (fun h=>h h1) fun h=>h.elim (fun h=>by cases h) fun h=>h.elim h2 h3)]
 repeat'(first|apply Sp.h|refine Lk.r rfl ?_|refine Rf.mk rfl ?_|refine xA ?_|refine xB ?_|refine OpK.r rfl ?_|refine xT ?_|refine xN ?_|(apply Kf.mk;(focus kernel_rfl))|refine xM ?_|(apply LkM.s;(focus first|assumption|rfl))|(apply Rf.mk;(focus assumption))|refine xD ?_|(((apply Cl.use (ho);(focus repeat' constructor);(focus repeat' constructor);focus rfl));(rintro _ _ ⟨rfl,rfl⟩))|(((apply Cl.use (hs);(focus repeat' constructor);(focus repeat' constructor);focus rfl));(rintro _ _ ⟨rfl,v1,rfl⟩))|(((apply Cl.use (hc _);(focus repeat' constructor);(focus repeat' constructor);focus rfl));(rintro _ _ ⟨v2,w,rfl,rfl⟩)))
 all_goals exact⟨_,_, .one (.same (.z)),_,_,rfl,rfl⟩
def ResE(n i t v:Int) : Prop:=(1≤n∧n≤5)∧(0≤i∧i < n)∧(0≤t∧t≤1048576)∧(-1≤v∧v < n)∧(t=0→v= -1)
instance (n i t v:Int):Decidable (ResE n i t v):=by unfold ResE;infer_instance
def ele0(n i t v:Int) : EleN:=⟨n,i,t,v,0,-1,[],0⟩
theorem erestore_a(n i t v:Int) : CallA Try.prog 48 [it n,it i,it t,it v] [] fun r own=>(¬ResE n i t v∧r= .tup [.val (.pointer none),it 1]∧own= [])∨(ResE n i t v∧∃p u,r= .tup [pm p,it 0]∧own=eleR p u (ele0 n i t v)):=by
 refine CallA.nilPost 3 1 intC (K:=fun r own=>(¬ResE n i t v∧r= .tup [.val (.pointer none),it 1]∧own= [])∨(ResE n i t v∧∃p,r= .tup [pm p,it 0]∧own= [blkR p 93 [it n,it i,it t,it v,it 0,it (-1), .val (.slice none 0 0),it 0]])) ?_ ?_
 rotate_left
 ·rintro _ _ (h|⟨h,p,rfl,rfl⟩)
  ·exact .inl (.inl h)
  ·exact .inr ⟨_,_,_,_,6, .here,rfl, .inr ⟨h,p,_,rfl,rfl⟩⟩
 refine CallA.of pg ordZ Try.func48 rfl Try.ntmps48 Try.results48 rfl fun h0 G0 O0=>?_
 by_cases h1:n < 1
 ·repeat'(first|apply Sp.h|refine Lk.r rfl ?_|refine Rf.mk rfl ?_|refine xA ?_|refine xN ?_|fail)
  all_goals exact⟨_,_, .tup (.same (.same (.z))), .inl ⟨fun h=>by have:=h.1;omega,rfl,rfl⟩⟩
 by_cases h2:5 < n
 ·repeat'(first|apply Sp.h|refine Lk.r rfl ?_|refine Rf.mk rfl ?_|refine xA ?_|refine xB ?_|refine xN ?_|fail)
  all_goals exact⟨_,_, .tup (.same (.same (.z))), .inl ⟨fun h=>by have:=h.1;omega,rfl,rfl⟩⟩
 by_cases h3:i < 0
 ·repeat'(first|apply Sp.h|refine Lk.r rfl ?_|refine Rf.mk rfl ?_|refine xA ?_|refine xB ?_|refine xN ?_|fail)
  all_goals exact⟨_,_, .tup (.same (.same (.z))), .inl ⟨fun h=>by have:=h.2.1;omega,rfl,rfl⟩⟩
 by_cases h4:n≤i
 ·repeat'(first|apply Sp.h|refine Lk.r rfl ?_|refine Rf.mk rfl ?_|refine xA ?_|refine xB ?_|refine xN ?_|fail)
  all_goals exact⟨_,_, .tup (.same (.same (.z))), .inl ⟨fun h=>by have:=h.2.1;omega,rfl,rfl⟩⟩
 by_cases h5:t < 0
 ·repeat'(first|apply Sp.h|refine Lk.r rfl ?_|refine Rf.mk rfl ?_|refine xA ?_|refine xB ?_|refine xN ?_|fail)
  all_goals exact⟨_,_, .tup (.same (.same (.z))), .inl ⟨fun h=>by have:=h.2.2.1;omega,rfl,rfl⟩⟩
 by_cases h6:1048576 < t
 ·repeat'(first|apply Sp.h|refine Lk.r rfl ?_|refine Rf.mk rfl ?_|refine xA ?_|refine xB ?_|refine xN ?_|fail)
  all_goals exact⟨_,_, .tup (.same (.same (.z))), .inl ⟨fun h=>by have:=h.2.2.1;omega,rfl,rfl⟩⟩
 by_cases h7:v < -1
 ·repeat'(first|apply Sp.h|refine Lk.r rfl ?_|refine Rf.mk rfl ?_|refine xA ?_|refine xB ?_|refine xN ?_|fail)
  all_goals exact⟨_,_, .tup (.same (.same (.z))), .inl ⟨fun h=>by have:=h.2.2.2.1;omega,rfl,rfl⟩⟩
 by_cases h8:n≤v
 ·repeat'(first|apply Sp.h|refine Lk.r rfl ?_|refine Rf.mk rfl ?_|refine xA ?_|refine xB ?_|refine xN ?_|fail)
  all_goals exact⟨_,_, .tup (.same (.same (.z))), .inl ⟨fun h=>by have:=h.2.2.2.1;omega,rfl,rfl⟩⟩
 by_cases h9:t=0
 ·by_cases h10:v= -1
  ·repeat'(first|apply Sp.h|refine Lk.r rfl ?_|refine Rf.mk rfl ?_|refine xA ?_|refine xB ?_|apply All.mk|(apply Fk.r;focus repeat' first|infer_instance|constructor)|refine xN ?_|intro _)
   all_goals exact⟨_,_, .tup (.same (.same (.z))), .inr ⟨⟨by omega,by omega,by omega,by omega,fun _=>h10⟩,_,rfl,rfl⟩⟩
  ·repeat'(first|apply Sp.h|refine Lk.r rfl ?_|refine Rf.mk rfl ?_|refine xA ?_|refine xB ?_|refine xN ?_|fail)
   all_goals exact⟨_,_, .tup (.same (.same (.z))), .inl ⟨fun h=>h10 (h.2.2.2.2 h9),rfl,rfl⟩⟩
 ·repeat'(first|apply Sp.h|refine Lk.r rfl ?_|refine Rf.mk rfl ?_|refine xB ?_|apply All.mk|(apply Fk.r;focus repeat' first|infer_instance|constructor)|refine xN ?_|intro _)
  all_goals exact⟨_,_, .tup (.same (.same (.z))), .inr ⟨⟨by omega,by omega,by omega,by omega,fun h=>absurd h h9⟩,_,rfl,rfl⟩⟩
theorem enew_a(n i:Int) : CallA Try.prog 47 [it n,it i] [] fun r own=>(¬ResE n i 0 (-1)∧r= .tup [.val (.pointer none),it 1]∧own= [])∨(ResE n i 0 (-1)∧∃p u,r= .tup [pm p,it 0]∧own=eleR p u (ele0 n i 0 (-1))):=by
 have h:=erestore_a n i 0 (-1)
 refine CallA.of pg ordZ Try.func47 rfl Try.ntmps47 Try.results47 rfl fun h0 G0 O0=>?_
 repeat'(first|apply Sp.h|refine Lk.r rfl ?_|refine Rf.mk rfl ?_|fail)
 refine xW (h) ?_
 rintro _ _ (⟨h,rfl,rfl⟩|⟨h,p,u,rfl,rfl⟩)
 ·repeat'(first|apply Sp.h|refine Lk.r rfl ?_|refine xN ?_|fail)
  exact⟨_,_, .tup (.same (.same (.z))), .inl ⟨h,rfl,rfl⟩⟩
 ·repeat'(first|apply Sp.h|refine Lk.r rfl ?_|refine xN ?_|fail)
  exact⟨_,_, .tup (.same (.same (.z))), .inr ⟨h,p,u,rfl,rfl⟩⟩
def okV(n:Int)(l:List Int)(j:Nat) : Bool:=decide (0≤l.getD j 0∧l.getD j 0 < n∧(j=0∨l.getD (j - 1) 0 < l.getD j 0))
def votB(n:Int)(l:List Int) : Bool:=(List.range l.length).all (okV n l) && decide (0 < l.length)
theorem all_range{p:Nat→Bool}{n:Nat}(h:∀j,j < n→p j=true) : (List.range n).all p=true:=List.all_eq_true.2 fun j hj=>h j (List.mem_range.1 hj)
theorem not_range{p:Nat→Bool}{n j:Nat}(hj:j < n)(h:p j=false) : (List.range n).all p=false:=by
 rw [List.all_eq_false]
 exact⟨j,List.mem_range.2 hj,by rw [h];exact Bool.false_ne_true⟩
theorem getD_of{α:Type}{l:List α}{i:Nat}{x d:α}(h:l[i]?=some x) : l.getD i d=x:=by rw [List.getD_eq_getElem?_getD,h];rfl
theorem voters_p(n:Int)(l:List Int) : CallP Try.prog 93 [it n,ints l] (bl (votB n l)):=by
 unfold votB
 refine CallA.of pg ordZ Try.func93 rfl Try.ntmps93 Try.results93 rfl fun h0 G0 O0=>?_
 repeat'(first|apply Sp.h|refine Lk.r rfl ?_|refine Rf.mk rfl ?_|apply Im.mk|intro _)
 refine CA.loop (fun i:Nat=>⟨[(0,it n),(1,ints l),(7,ints l),(8,it (l.length:Nat)),(9,it i)],[]⟩) (fun i=>i≤l.length∧∀j,j < i→okV n l j=true) (fun i=>l.length - i) 0 xE ⟨zZ _,fun j h=>by omega⟩ ?_
 rintro i ⟨hi,hok⟩
 by_cases hin:i < l.length
 rotate_left
 ·have:i=l.length:=by omega
  subst this
  rw [all_range hok,Bool.true_and]
  repeat'(first|apply Sp.h|refine Lk.r rfl ?_|refine Rf.mk rfl ?_|refine xB ?_|apply Im.mk|refine xN ?_|intro _)
  exact Fin.p rfl (vb (zD.2 (by omega)))
 obtain⟨x,hx⟩:=get_of hin
 have hg:l.getD i 0=x:=getD_of hx
 have hst:okV n l i=true→∀j,j < i+1→okV n l j=true:=fun h j hj=>by
  by_cases hji:j=i
  ·rw [hji];exact h
  ·exact hok j (by omega)
 have hno:okV n l i=false→((List.range l.length).all (okV n l) && decide (0 < l.length))=false:=fun h=>by rw [not_range hin h,Bool.false_and]
 have hov:okV n l i=decide (0≤x∧x < n∧(i=0∨l.getD (i - 1) 0 < x)):=by unfold okV;rw [hg]
 by_cases h1:x < 0
 ·rw [hno (by rw [hov];exact zF (by omega))]
  repeat'(first|apply Sp.h|refine Lk.r rfl ?_|refine Rf.mk rfl ?_|refine xA ?_|refine xI ?_|refine xN ?_|fail)
  all_goals exact Fin.p rfl rfl
 by_cases h2:n≤x
 ·rw [hno (by rw [hov];exact zF (by omega))]
  repeat'(first|apply Sp.h|refine Lk.r rfl ?_|refine Rf.mk rfl ?_|refine xA ?_|refine xB ?_|refine xI ?_|refine xN ?_|fail)
  all_goals exact Fin.p rfl rfl
 cases i with
 | zero =>
  repeat'(first|apply Sp.h|refine Lk.r rfl ?_|refine Rf.mk rfl ?_|refine xA ?_|refine xB ?_|refine xI ?_|refine xO ?_|fail)
  all_goals first
   | exact PA.lp 1 xE ⟨⟨hin,hst (by rw [hov];exact zT ⟨by omega,by omega, .inl rfl⟩)⟩,by omega⟩
   | exact(by omega:False).elim
 | succ i =>
  obtain⟨y,hy⟩:=get_of (l:=l) (i:=i) (by omega)
  have hg2:l.getD (i+1 - 1) 0=y:=getD_of hy
  rw [hg2] at hov
  have e1:((i+1:Nat):Int) - 1=(i:Nat):=by omega
  by_cases h3:x≤y
  ·rw [hno (by rw [hov];exact zF (by omega))]
   repeat'(first|apply Sp.h|refine Lk.r rfl ?_|refine Rf.mk rfl ?_|refine xA ?_|refine xB ?_|refine xI ?_|(apply Ix.r;(focus assumption);(focus omega))|refine xN ?_|refine xO ?_|fail)
   all_goals first
    | exact Fin.p rfl rfl
    | exact(by omega:False).elim
  ·repeat'(first|apply Sp.h|refine Lk.r rfl ?_|refine Rf.mk rfl ?_|refine xA ?_|refine xB ?_|refine xI ?_|(apply Ix.r;(focus assumption);(focus omega))|refine xO ?_|fail)
   all_goals first
    | exact PA.lp (i+2) xE ⟨⟨hin,hst (by rw [hov];exact zT ⟨by omega,by omega, .inr (by omega)⟩)⟩,by omega⟩
    | exact(by omega:False).elim
theorem cloneE_o(l:List EntS)(hl:l.length≤1000000000) : CallO Try.prog 85 [entsA l] 89 6 l entC:=by
 refine CallA.of pg ordZ Try.func85 rfl Try.ntmps85 Try.results85 rfl fun h0 G0 O0=>?_
 repeat'(first|apply Sp.h|refine Lk.r rfl ?_|refine Rf.mk rfl ?_|apply Bd.mk|refine xP ?_|apply Im.mk|apply All.mk|refine xU ?_|refine Ce.l rfl ?_|(apply Fk.r;focus repeat' first|infer_instance|constructor)|refine xN ?_|refine Rf.mk ⟨rfl,rfl⟩ ?_|refine Rf.mk ⟨rfl,rfl,rfl⟩ ?_|refine Mp.same ?_|intro _)
 ·rename_i b hb hbt
  have hl0:l= []:=Decidable.byContradiction fun h=>by rw [hb h] at hbt;cases hbt
  subst hl0
  exact⟨_,_, .one (.nils (.z)),_,rfl,rfl⟩
 ·repeat'(first|fail)
  exact⟨_,_, .one (.same (.z)),_,rfl,rfl⟩
theorem set_at{α:Type}{l:List α}{i:Nat}{x:α}(h:l[i]?=some x) : l.set i x=l:=by
 apply List.ext_getElem?
 intro j
 rw [List.getElem?_set]
 by_cases hij:i=j
 ·subst hij;rw [if_pos rfl,if_pos (zS.1 h).1,h]
 ·rw [if_neg hij]
theorem rclone_o(l:List EntS)(hl:l.length≤100000000)(hv:∀e∈l,e.vot.length≤1000000) : CallO Try.prog 57 [entsA l] 89 6 l entC:=by
 have hc:=cloneE_o l (by omega)
 refine CallA.of pg ordZ Try.func57 rfl Try.ntmps57 Try.results57 rfl fun h0 G0 O0=>?_
 repeat'(first|apply Sp.h|refine Lk.r rfl ?_|refine Rf.mk rfl ?_|fail)
 (refine Cl.use (hc) (by repeat'(first|exact Lend.nil|apply Lend.keep|fail)) .nil rfl ?_;rintro _ _ ⟨_,rfl,rfl⟩)
 rename_i v
 repeat'(first|apply Sp.h|refine Lk.r rfl ?_|refine Rf.mk rfl ?_|refine xU ?_|fail)
 refine CA.loop (fun i:Nat=>⟨[(3, .ow v),(8,it (l.length:Nat)),(9,it i)],[arrR v 89 6 l entC]⟩) (fun i=>i≤l.length) (fun i=>l.length - i) 0 xE (zZ _) ?_
 intro i hi
 by_cases hin:i < l.length
 ·obtain⟨⟨a,b,c,d,e,vt⟩,hx⟩:=get_of hin
  have hcp:CallP Try.prog 70 [ints vt] (ints vt):=CallA.fz (by have:=hv _ (zM hx);simp only at this;omega) (clone_o vt (by have:=hv _ (zM hx);simp only at this;omega))
  have hst:=set_at hx
  repeat'(first|apply Sp.h|refine Lk.r rfl ?_|refine Rf.mk rfl ?_|refine xA ?_|refine xU ?_|refine xI ?_|refine xJ ?_|refine xV ?_|refine Up.r rfl ?_|refine xO ?_|(apply Cl.p (hcp);focus repeat' constructor))
  rw [hst]
  all_goals exact PA.lp (i+1) xE ⟨hin,by omega⟩
 ·have:i=l.length:=by omega
  subst this
  repeat'(first|apply Sp.h|refine Lk.r rfl ?_|refine Rf.mk rfl ?_|refine xB ?_|refine xN ?_|fail)
  exact⟨_,_, .one (.same (.z)),_,rfl,rfl⟩
def plainB(e:EntS) : Bool:=decide (e.rep=0∧e.ser=0∧e.act=0)
def rigB(n:Int)(e:EntS) : Bool:=decide (1≤e.term∧e.term≤1048576) && (if e.kind=0 then plainB e && decide (e.vot.length=0) else if e.kind=1 then decide (e.vot.length=0∧(0≤e.rep∧e.rep < n)∧(1≤e.ser∧e.ser≤1048576)∧0≤e.act∧e.act < 256) else if e.kind=2 then plainB e && votB n e.vot else false)
abbrev entA (e:EntS):AV:= .agg (entC e)
theorem right_p(n:Int)(e:EntS) : CallP Try.prog 72 [it n,entA e] (bl (rigB n e)):=by
 unfold rigB
 have hv:=voters_p n e.vot
 by_cases h1:1≤e.term∧e.term≤1048576
 rotate_left
 ·rw [zF h1,Bool.false_and]
  refine CallA.of pg ordZ Try.func72 rfl Try.ntmps72 Try.results72 rfl fun h0 G0 O0=>?_
  by_cases h2:e.term < 1
  ·repeat'(first|apply Sp.h|refine Lk.r rfl ?_|refine Rf.mk rfl ?_|refine xA ?_|apply All.mk|refine xT ?_|refine xN ?_|intro _)
   all_goals exact Fin.p rfl rfl
  ·repeat'(first|apply Sp.h|refine Lk.r rfl ?_|refine Rf.mk rfl ?_|refine xA ?_|refine xB ?_|apply All.mk|refine xT ?_|refine xN ?_|intro _)
   all_goals first
    | exact Fin.p rfl rfl
    | exact(h1 ⟨by omega,by omega⟩).elim
 rw [zT h1,Bool.true_and]
 obtain⟨t1,t2⟩:=h1
 obtain⟨q,hq⟩:∃q,q=plainB e:=⟨_,rfl⟩
 rw [←hq]
 unfold plainB at hq
 refine CallA.of pg ordZ Try.func72 rfl Try.ntmps72 Try.results72 rfl fun h0 G0 O0=>?_
 (repeat'(first|(show CA _ _ (Code.region 3 _ _) _ _;apply Stopped.out)|apply Sp.h|refine Lk.r rfl ?_|refine Rf.mk rfl ?_|refine xB ?_|apply All.mk|refine xT ?_|intro _));any_goals apply Stopped.mk
 rename_i b3
 refine CA.cut (fun z:Bool=>⟨[(0,it n),(3,pm b3),(5,bl z)],[blkR b3 89 (entC e)]⟩) (fun z=>z=q) ?_ ?_
 ·by_cases h1:e.rep=0
  rotate_left
  ·repeat'(first|apply Sp.h|refine Lk.r rfl ?_|refine Rf.mk rfl ?_|refine xB ?_|refine xT ?_|fail)
   all_goals exact PA.lp _ xE (by rw [hq];exact(zF (fun h=>h1 h.1)).symm)
  by_cases h2:e.ser=0
  rotate_left
  ·repeat'(first|apply Sp.h|refine Lk.r rfl ?_|refine Rf.mk rfl ?_|refine xA ?_|refine xB ?_|refine xT ?_|fail)
   all_goals exact PA.lp _ xE (by rw [hq];exact(zF (fun h=>h2 h.2.1)).symm)
  by_cases h3:e.act=0
  rotate_left
  ·repeat'(first|apply Sp.h|refine Lk.r rfl ?_|refine Rf.mk rfl ?_|refine xA ?_|refine xT ?_|fail)
   all_goals exact PA.lp _ xE (by rw [hq];first|exact(zF (fun h=>h3 h.2.2)).symm|exact zD.2 (by omega))
  ·repeat'(first|apply Sp.h|refine Lk.r rfl ?_|refine Rf.mk rfl ?_|refine xA ?_|refine xT ?_|fail)
   all_goals exact PA.lp _ xE (by rw [hq];first|exact(zT ⟨h1,h2,h3⟩).symm|exact zD.2 (by omega))
 rintro z rfl
 clear hq
 by_cases k0:e.kind=0
 ·rw [if_pos k0]
  cases z
  ·rw [Bool.false_and]
   repeat'(first|apply Sp.h|refine Lk.r rfl ?_|refine Rf.mk rfl ?_|refine xA ?_|refine xT ?_|refine xN ?_|fail)
   all_goals exact Fin.p rfl rfl
  ·rw [Bool.true_and]
   repeat'(first|apply Sp.h|refine Lk.r rfl ?_|refine Rf.mk rfl ?_|refine xA ?_|apply Im.mk|refine xT ?_|refine xN ?_|intro _)
   all_goals exact Fin.p rfl (vb (by first|exact zD.2 (by omega)))
 rw [if_neg k0]
 by_cases k1:e.kind=1
 ·rw [if_pos k1]
  by_cases c1:e.vot.length=0
  rotate_left
  ·rw [zF (fun h=>c1 h.1)]
   repeat'(first|apply Sp.h|refine Lk.r rfl ?_|refine Rf.mk rfl ?_|refine xA ?_|refine xB ?_|apply Im.mk|refine xT ?_|refine xN ?_|intro _)
   all_goals first
    | exact Fin.p rfl rfl
    | exact Fin.p rfl (vb (zF (by omega)))
  by_cases c2:0≤e.rep
  rotate_left
  ·rw [zF (fun h=>c2 h.2.1.1)]
   repeat'(first|apply Sp.h|refine Lk.r rfl ?_|refine Rf.mk rfl ?_|refine xA ?_|refine xB ?_|apply Im.mk|refine xT ?_|refine xN ?_|intro _)
   all_goals first
    | exact Fin.p rfl rfl
    | exact Fin.p rfl (vb (zF (by omega)))
  by_cases c3:e.rep < n
  rotate_left
  ·rw [zF (fun h=>c3 h.2.1.2)]
   repeat'(first|apply Sp.h|refine Lk.r rfl ?_|refine Rf.mk rfl ?_|refine xA ?_|refine xB ?_|apply Im.mk|refine xT ?_|refine xN ?_|intro _)
   all_goals first
    | exact Fin.p rfl rfl
    | exact Fin.p rfl (vb (zF (by omega)))
  by_cases c4:1≤e.ser
  rotate_left
  ·rw [zF (fun h=>c4 h.2.2.1.1)]
   repeat'(first|apply Sp.h|refine Lk.r rfl ?_|refine Rf.mk rfl ?_|refine xA ?_|refine xB ?_|apply Im.mk|refine xT ?_|refine xN ?_|intro _)
   all_goals first
    | exact Fin.p rfl rfl
    | exact Fin.p rfl (vb (zF (by omega)))
  by_cases c5:e.ser≤1048576
  rotate_left
  ·rw [zF (fun h=>c5 h.2.2.1.2)]
   repeat'(first|apply Sp.h|refine Lk.r rfl ?_|refine Rf.mk rfl ?_|refine xA ?_|refine xB ?_|apply Im.mk|refine xT ?_|refine xN ?_|intro _)
   all_goals first
    | exact Fin.p rfl rfl
    | exact Fin.p rfl (vb (zF (by omega)))
  by_cases c6:0≤e.act
  rotate_left
  ·rw [zF (fun h=>c6 h.2.2.2.1)]
   repeat'(first|apply Sp.h|refine Lk.r rfl ?_|refine Rf.mk rfl ?_|refine xA ?_|refine xB ?_|apply Im.mk|refine xT ?_|refine xN ?_|intro _)
   all_goals first
    | exact Fin.p rfl rfl
    | exact Fin.p rfl (vb (zF (by omega)))
  ·repeat'(first|apply Sp.h|refine Lk.r rfl ?_|refine Rf.mk rfl ?_|refine xA ?_|refine xB ?_|apply Im.mk|refine xT ?_|refine xN ?_|intro _)
   all_goals exact Fin.p rfl (vb (zD.2 (by omega)))
 rw [if_neg k1]
 by_cases k2:e.kind=2
 ·rw [if_pos k2]
  generalize votB n e.vot=w at hv ⊢
  cases z
  ·rw [Bool.false_and]
   repeat'(first|apply Sp.h|refine Lk.r rfl ?_|refine Rf.mk rfl ?_|refine xA ?_|refine xB ?_|refine xT ?_|refine xN ?_|(apply Cl.p (hv);(focus repeat'(first|fail))))
   all_goals exact Fin.p rfl rfl
  ·rw [Bool.true_and]
   repeat'(first|apply Sp.h|refine Lk.r rfl ?_|refine Rf.mk rfl ?_|refine xA ?_|refine xB ?_|refine xT ?_|refine xN ?_|(apply Cl.p (hv);focus repeat' constructor))
   all_goals exact Fin.p rfl rfl
 ·rw [if_neg k2]
  repeat'(first|apply Sp.h|refine Lk.r rfl ?_|refine Rf.mk rfl ?_|refine xB ?_|refine xT ?_|refine xN ?_|fail)
  all_goals exact Fin.p rfl rfl
def trmE(l:List EntS)(j:Nat) : Int:=(l[j]?.map EntS.term).getD 0
def okE(n:Int)(l:List EntS)(j:Nat) : Bool:=match l[j]? with
 | some e=>rigB n e && decide (j=0∨trmE l (j - 1)≤e.term)
 | none=>false
def valB(n:Int)(l:List EntS) : Bool:=(List.range l.length).all (okE n l) && decide (l.length≤1024)
theorem rvalid_p(n:Int)(l:List EntS) : CallP Try.prog 42 [it n,entsA l] (bl (valB n l)):=by
 unfold valB
 refine CallA.of pg ord42 Try.func42 rfl Try.ntmps42 Try.results42 rfl fun h0 G0 O0=>?_
 repeat'(first|apply Sp.h|refine Lk.r rfl ?_|refine Rf.mk rfl ?_|apply Im.mk|intro _)
 refine CA.loop (fun i:Nat=>⟨[(0,it n),(1,entsA l),(7,entsA l),(8,it (l.length:Nat)),(9,it i)],[]⟩) (fun i=>i≤l.length∧∀j,j < i→okE n l j=true) (fun i=>l.length - i) 0 xE ⟨zZ _,fun j h=>by omega⟩ ?_
 rintro i ⟨hi,hok⟩
 by_cases hin:i < l.length
 rotate_left
 ·have:i=l.length:=by omega
  subst this
  rw [all_range hok,Bool.true_and]
  repeat'(first|apply Sp.h|refine Lk.r rfl ?_|refine Rf.mk rfl ?_|refine xB ?_|apply Im.mk|refine xN ?_|intro _)
  exact Fin.p rfl (vb (zD.2 (by omega)))
 obtain⟨e,hx⟩:=get_of hin
 have hst:okE n l i=true→∀j,j < i+1→okE n l j=true:=fun h j hj=>by
  by_cases hji:j=i
  ·rw [hji];exact h
  ·exact hok j (by omega)
 have hno:okE n l i=false→((List.range l.length).all (okE n l) && decide (l.length≤1024))=false:=fun h=>by rw [not_range hin h,Bool.false_and]
 have hov:okE n l i=(rigB n e && decide (i=0∨trmE l (i - 1)≤e.term)):=by unfold okE;rw [hx]
 have hr:=right_p n e
 generalize rigB n e=b at hr hov
 cases b
 ·rw [hno (by rw [hov,Bool.false_and])]
  repeat'(first|apply Sp.h|refine Lk.r rfl ?_|refine Rf.mk rfl ?_|refine xA ?_|refine xB ?_|refine OpK.r rfl ?_|refine All.mk fun _=>?_|refine xT ?_|refine xI ?_|refine Ch.l ⟨rfl,rfl⟩ ?_|(apply SetAsk.r;focus repeat' constructor)|refine xN ?_|refine xD ?_|(apply Cl.p (hr);focus repeat' constructor))
  all_goals exact Fin.p rfl rfl
 rw [Bool.true_and] at hov
 cases i with
 | zero =>
  repeat'(first|apply Sp.h|refine Lk.r rfl ?_|refine Rf.mk rfl ?_|refine xA ?_|refine xB ?_|refine OpK.r rfl ?_|refine All.mk fun _=>?_|refine xT ?_|refine xI ?_|refine Ch.l ⟨rfl,rfl⟩ ?_|(apply SetAsk.r;focus repeat' constructor)|refine xN ?_|refine xD ?_|refine xO ?_|(apply Cl.p (hr);focus repeat' constructor))
  all_goals first
   | exact PA.lp 1 xE ⟨⟨hin,hst (by rw [hov];exact zT (.inl rfl))⟩,by omega⟩
   | exact(by omega:False).elim
 | succ i =>
  obtain⟨d,hy⟩:=get_of (l:=l) (i:=i) (by omega)
  have hg2:trmE l (i+1 - 1)=d.term:=by unfold trmE;rw [Nat.add_sub_cancel,hy];rfl
  rw [hg2] at hov
  have e1:((i+1:Nat):Int) - 1=(i:Nat):=by omega
  by_cases h3:e.term < d.term
  ·rw [hno (by rw [hov];exact zF (by omega))]
   repeat'(first|apply Sp.h|refine Lk.r rfl ?_|refine Rf.mk rfl ?_|refine xA ?_|refine OpK.r rfl ?_|refine All.mk fun _=>?_|refine xT ?_|refine xI ?_|(apply Ix.r;(focus assumption);(focus omega))|refine Ch.l ⟨rfl,rfl⟩ ?_|(apply SetAsk.r;focus repeat' constructor)|refine xN ?_|refine xD ?_|refine xO ?_|(apply Cl.p (hr);focus repeat' constructor))
   all_goals first
    | exact Fin.p rfl rfl
    | exact(by omega:False).elim
  ·repeat'(first|apply Sp.h|refine Lk.r rfl ?_|refine Rf.mk rfl ?_|refine xA ?_|refine xB ?_|refine OpK.r rfl ?_|refine All.mk fun _=>?_|refine xT ?_|refine xI ?_|(apply Ix.r;(focus assumption);(focus omega))|refine Ch.l ⟨rfl,rfl⟩ ?_|(apply SetAsk.r;focus repeat' constructor)|refine xN ?_|refine xD ?_|refine xO ?_|(apply Cl.p (hr);focus repeat' constructor))
   all_goals first
    | exact PA.lp (i+2) xE ⟨⟨hin,hst (by rw [hov];exact zT (.inr (by omega)))⟩,by omega⟩
    | exact(by omega:False).elim
structure LogN where
 n:Int
 i:Int
 ents:List EntS
 commit:Int
 leads:Int
 o0:Int×Int
 o1:Int×Int
 o2:Int×Int
 o3:Int×Int
 o4:Int×Int
def logC(g:LogN)(v:Value) : List AV:= [it g.n,it g.i, .ow v,it g.commit,it g.leads,it g.o0.1,it g.o0.2,it g.o1.1,it g.o1.2,it g.o2.1,it g.o2.2,it g.o3.1,it g.o3.2,it g.o4.1,it g.o4.2]
abbrev logR (p:Nat) (v:Value) (g:LogN):List Res:= [blkR p 119 (logC g v),arrR v 89 6 g.ents entC]
def trmI(l:List EntS)(j:Int) : Int:=if j=0 then 0 else trmE l (j - 1).toNat
theorem lterm_a(p:Nat)(v:Value)(g:LogN)(j:Int)(hl:g.ents.length≤100000)(hj:0≤j∧j≤g.ents.length) : CallA Try.prog 54 [pm p,it j] (logR p v g) fun r own=>r=it (trmI g.ents j)∧own=logR p v g:=by
 unfold trmI
 obtain⟨j1,j2⟩:=hj
 refine CallA.of pg ordZ Try.func54 rfl Try.ntmps54 Try.results54 rfl fun h0 G0 O0=>?_
 by_cases h:j=0
 ·rw [if_pos h]
  repeat'(first|apply Sp.h|refine Lk.r rfl ?_|refine Rf.mk rfl ?_|refine xA ?_|refine xN ?_|fail)
  exact⟨_,_, .one (.same (.z)),rfl,rfl⟩
 ·rw [if_neg h]
  obtain⟨k,rfl⟩:∃k:Nat,j=(k:Int)+1:=⟨(j - 1).toNat,by omega⟩
  have e1:((k:Int)+1) - 1=(k:Nat):=by omega
  obtain⟨e,he⟩:=get_of (l:=g.ents) (i:=k) (by omega)
  have ht:trmE g.ents ((k:Int)+1 - 1).toNat=e.term:=by rw [e1,Int.toNat_natCast,trmE,he];rfl
  rw [ht]
  repeat'(first|apply Sp.h|refine Lk.r rfl ?_|refine Rf.mk rfl ?_|refine xB ?_|refine xU ?_|refine xT ?_|(apply Ix.r;(focus assumption);(focus omega))|refine xJ ?_|refine xN ?_|refine xO ?_|fail)
  exact⟨_,_, .one (.same (.z)),rfl,rfl⟩
theorem lleads_a(p:Nat)(v:Value)(g:LogN) : CallA Try.prog 33 [pm p] (logR p v g) fun r own=>r=it g.leads∧own=logR p v g:=by
 refine CallA.of pg ordZ Try.func33 rfl Try.ntmps33 Try.results33 rfl fun h0 G0 O0=>?_
 repeat'(first|apply Sp.h|refine Lk.r rfl ?_|refine Rf.mk rfl ?_|refine xT ?_|refine xN ?_|fail)
 exact⟨_,_, .one (.same (.z)),rfl,rfl⟩
theorem lcommit_a(p:Nat)(v:Value)(g:LogN) : CallA Try.prog 39 [pm p] (logR p v g) fun r own=>r=it g.commit∧own=logR p v g:=by
 refine CallA.of pg ordZ Try.func39 rfl Try.ntmps39 Try.results39 rfl fun h0 G0 O0=>?_
 repeat'(first|apply Sp.h|refine Lk.r rfl ?_|refine Rf.mk rfl ?_|refine xT ?_|refine xN ?_|fail)
 exact⟨_,_, .one (.same (.z)),rfl,rfl⟩
theorem lstop_a(p:Nat)(v:Value)(g:LogN) : CallA Try.prog 81 [pm p] (logR p v g) fun r own=>r= .tup []∧own=logR p v { g with leads:=0 }:=by
 refine CallA.of pg ordZ Try.func81 rfl Try.ntmps81 Try.results81 rfl fun h0 G0 O0=>?_
 repeat'(first|apply Sp.h|refine Lk.r rfl ?_|refine Rf.mk rfl ?_|refine xT ?_|refine xV ?_|refine xN ?_|fail)
 exact⟨_,_, .tup (.z),rfl,rfl⟩
def lstO : Nat→Ord×(Nat→Cls):=fun id=>bif Nat.beq id 1 then(.one 0 (.one 1 (.one 2 (.one 5 (.one 6 (.one 7 (.one 8 (.one 9 (.one 10 (.alt 3 (.one 4 (.one 11 (.one 12 (.one 13 .done)))) (.alt 11 (.one 3 (.one 4 (.one 12 (.one 13 .done)))) (.none))))))))))),clOf [.pure, .pure, .pure, .ext, .pure, .pure, .pure, .pure, .pure, .read, .pure, .loud, .pure, .pure]) else(.done,clOf [])
theorem llast_a(p:Nat)(v:Value)(g:LogN)(hl:g.ents.length≤100000) : CallA Try.prog 31 [pm p] (logR p v g) fun r own=>r= .tup [it (g.ents.length:Nat),it (trmI g.ents (g.ents.length:Nat))]∧own=logR p v g:=by
 have ht:=lterm_a p v g (g.ents.length:Nat) hl (by omega)
 refine CallA.of pg lstO Try.func31 rfl Try.ntmps31 Try.results31 rfl fun h0 G0 O0=>?_
 repeat'(first|apply Sp.h|refine Lk.r rfl ?_|refine Rf.mk rfl ?_|refine OpK.r rfl ?_|refine xU ?_|refine xT ?_|refine xN ?_|refine xD ?_|exact trivial|apply RA'.both|(((apply Cl.use (ht);(focus repeat' constructor);(focus repeat' constructor);focus rfl));(rintro _ _ ⟨rfl,rfl⟩)))
 all_goals exact⟨_,_, .tup (.same (.same (.z))),rfl,rfl⟩
end Go.Proofs.Ythlpimbhonihhaa
namespace Go.CF
open Go
section
variable {Γ:Cx} {k:List KI} {e:EA} {o:List Res} {N:NA} {c:Cls} {d:Tmp} {ty:TypeId} {x y:Operand} {t u:TypeId}
instance {v:Value} {s j m0 m cp:Nat} : Sp (Ap2 Γ c d (.binOp .eql t x y u) ty e o N x (.os v s j m0) y (.val (.slice none m cp))) (Lk (slE Γ.tt t) fun _=>TkA o v fun _ _ _ _ _=>All fun b:Bool=>Im (m0≠0→b=false) (N ((d, .val (.bool b)) :: e) o)):=⟨fun⟨p,hp,α,T,sz,l,f,rest,tk,hn⟩=>⟨fun ha hb=>⟨fun env hh G Os cn=>by
 obtain⟨w,h1,q,len,cap,hq,hjm,rfl⟩:=cn.get ha
 subst hq
 obtain⟨w',h2,h3⟩:=cn.get hb
 have h3:w'=_:=h3
 subst h3
 obtain⟨O,Os',cn2⟩:=cn.take tk
 obtain⟨⟨_,rows,hw,_⟩,_⟩:=cn2.hp.own
 obtain⟨ti,t1,t2,t3⟩:=slE_spec hp
 refine St.eql_snil Γ.ok t1 t2 h1 h2 (CN.mk (cn.put d (a:= .val (.bool (subA q s j cap).isNone)) rfl) ((hn.ok (subA q s j cap).isNone).k fun hne=>?_))
 rcases hw.ok with⟨e1,e2⟩|⟨b',of,cap',L,e1,_⟩
 ·cases e1;omega
 ·cases e1
  unfold subA
  split <;> rfl⟩⟩⟩
end
section
variable {Γ:Cx} {k:List KI} {e:EA} {o:List Res} {N:NA} {c:Cls} {d:Tmp} {ty:TypeId} {x y:Operand} {t:TypeId} {kk:IntKind} {i:Int}
instance {b q:Nat} : Sp (Ap2 Γ c d (.indexAddr t x y) ty e o N x (.val (.pointer (some ⟨b,q,none⟩))) y (.val (.int kk i))) (Lk (arE Γ.tt t) fun p=>Rf (Nat.blt 0 p.1=true) (Jx i (p.1 - 1) fun j=>N ((d, .val (.pointer (some ⟨b,q+j * p.2.size,none⟩))) :: e) o)):=⟨fun⟨p,hp,hz,j,hi,hj,hn⟩=>pu2 fun env h G v w h1 h1' h2 h2'=>by
 obtain⟨ti,e,t1,t2,t3⟩:=arE_spec hp
 have h2:v=_:=h2
 have h2':w=_:=h2'
 subst h2;subst h2'
 simp at hz
 exact⟨_,_,rfl,hn,fun _ hk=>St.indexAddrA Γ.ok t1 t2 t3 h1 h1' hi (by omega) hk⟩⟩
end
end Go.CF
