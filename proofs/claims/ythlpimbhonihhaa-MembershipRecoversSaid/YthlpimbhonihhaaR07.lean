/- Part 7 of the ground of this proof: what its texts say of the model, the program and the plain data; conditions: those that are named. -/
import Derived.Shelf.Slices.In.SortNone
import Derived.Test.YthlpimbhonihhaaR06
set_option maxRecDepth 100000
set_option maxHeartbeats 80000000
namespace Go.CF
open Go
def AV.oz(v:Value)(sz j m:Nat) : AV:=⟨fun _ _ u=>∃p len cap,v= .slice p len cap∧j+m≤len∧u= .slice (subA p sz j (j+m)) m m,fun _ h=>h,fun _ h=>h⟩
section
variable {Γ:Cx} {k:List KI} {e:EA} {o:List Res} {N:NA} {c:Cls} {d:Tmp} {ty:TypeId} {x y:Operand} {t u:TypeId}
structure Slz (Γ:Cx) (c:Cls) (d:Tmp) (t:TypeId) (x lo hi mx:Operand) (ty:TypeId) (e:EA) (o:List Res) (N:NA) (a:AV):Prop where
 h:evA e x=some a→SA Γ c (some d) (.slice t x (some lo) (some hi) (some mx)) ty e o N
instance {lo hi mx:Operand} : Sp (SA Γ c (some d) (.slice t x (some lo) (some hi) (some mx)) ty e o N) (Lk (evA e x) fun a=>Slz Γ c d t x lo hi mx ty e o N a):=⟨fun⟨_,ha,h⟩=>h.h ha⟩
instance {lo hi mx:Operand} {v:Value} : Sp (Slz Γ c d t x lo hi mx ty e o N (.ow v)) (Lk (slE Γ.tt t) fun p=>TkA o v fun _ sz l _ _=>Rf (p.2.size=sz) (Bds e (some lo) (some hi) l.length fun a b=>Bds e none (some mx) l.length fun _ b'=>Om (b'=b) (N ((d, .oz v sz a (b - a)) :: e) o))):=⟨fun⟨p,hp,α,T,sz,l,f,rest,tk,hz,a,b,h1,h2,⟨_,b',_,_,⟨hb,hn⟩,_,kk3,i3,h7,h8⟩,⟨kk1,i1,h3,h4⟩,kk2,i2,h5,h6⟩=>⟨fun ha=>⟨fun env hh G Os cn=>by
 subst hb
 obtain⟨w,g1,rfl,q,len,cap,rfl⟩:=cn.get ha
 obtain⟨O,Os',cn2⟩:=cn.take tk
 obtain⟨⟨_,rows,hw,_⟩,_⟩:=cn2.hp.own
 have hlc:len=l.length∧l.length≤cap:=by
  rcases hw.ok with⟨e1,e2⟩|⟨b',of,cap',L,e1,_,_,e2,_⟩
  ·cases e1;omega
  ·cases e1;exact⟨rfl,e2⟩
 obtain⟨rfl,hlc⟩:=hlc
 obtain⟨ti,t1,t2,t3⟩:=slE_spec hp
 obtain⟨u1,q1,q2⟩:=cn.get h3
 have q2:u1=_:=q2
 subst q2
 obtain⟨u2,q3,q4⟩:=cn.get h5
 have q4:u2=_:=q4
 subst q4
 obtain⟨u3,q5,q6⟩:=cn.get h7
 have q6:u3=_:=q6
 subst q6
 refine St.sliceLHM Γ.ok t1 t2 t3 g1 q1 q3 q5 h4 h6 h8 h1 (Nat.le_refl _) (by omega) (CN.mk (cn.put d (a:= .oz _ sz a (b' - a)) ⟨q,_,cap,rfl,by omega, ?_⟩) hn)
 rw [hz,show a+(b' - a)=b' by omega]⟩⟩⟩
instance {v:Value} {s j m sz:Nat} {M:∀{β:Type},List β→(β→List AV)→Prop} : Sp (Src o (.oz v s j m) sz M) (TkA o v fun _ s' l f _=>Rf (s=sz∧s'=sz) (M ((l.drop j).take m) f)):=⟨fun⟨α,T,s',l,f,rest,tk,⟨hs,hs'⟩,hn⟩=>⟨α,_,f,hn,by
 subst hs;subst hs'
 rintro h0 G0 O0 h G Os u c ⟨p,len,cap,rfl,hjm,rfl⟩
 obtain⟨O,Os',c2⟩:=c.take tk
 obtain⟨⟨_,rows,hw,hrr⟩,_⟩:=c2.own
 have hsz:=hrr.sz
 have hlen:len=l.length:=by
  rcases hw.ok with⟨e1,e2⟩|⟨b',of,cap',L,e1,_,_,_,_⟩
  ·cases e1;omega
  ·cases e1;rfl
 subst hlen
 have hml:((l.drop j).take m).length=m:=by simp;omega
 refine⟨(rows.drop j).take m, ?_,(hrr.drop j).take m⟩
 rw [hml]
 rcases Nat.eq_zero_or_pos m with rfl|hm
 ·exact⟨.inl ⟨_,_,rfl,rfl,by simp⟩⟩
 ·rcases hw.sl.ok with⟨p',cap',e1,e2,_⟩|⟨b,of,cap',e1,_,e2,e3,hc⟩
  ·omega
  ·cases e1
   refine⟨.inr ⟨b,of+j * s',m, ?_,hm,Nat.le_refl _,e3, ?_⟩⟩
   ·unfold subA
    rw [if_neg (by omega)]
    simp [Addr.add]
   ·have e1:(rows.drop j).flatten=rows.flatten.drop (j * s'):=by
     have e2:rows.flatten=(rows.take j).flatten ++ (rows.drop j).flatten:=by rw [←List.flatten_append,List.take_append_drop]
     have e3:(rows.take j).flatten.length=j * s':=by rw [flat_len _ (fun r hr=>hsz r (zW hr)),zN,hrr.len];congr 1 <;> omega
     rw [e2,←e3,List.drop_left]
    have e4:((rows.drop j).take m).flatten=(rows.flatten.drop (j * s')).take (m * s'):=by
     have e2:(rows.drop j).flatten=((rows.drop j).take m).flatten ++ ((rows.drop j).drop m).flatten:=by rw [←List.flatten_append,List.take_append_drop]
     have e3:((rows.drop j).take m).flatten.length=m * s':=by rw [flat_len _ (fun r hr=>hsz r (List.mem_of_mem_drop (zW hr))),zN,List.length_drop,hrr.len];congr 1 <;> omega
     rw [←e1,e2,←e3,List.take_left]
    rw [e4]
    refine⟨fun q v hv=>?_⟩
    rw [List.getElem?_take] at hv
    split at hv
    ·rw [List.getElem?_drop] at hv
     have:=hc.cell hv
     rw [addr_add,show of+j * s'+q=of+(j * s'+q) by omega]
     exact this
    ·cases hv⟩⟩
instance {v:Value} {s j m0 m cp:Nat} : Sp (Ap2 Γ c d (.binOp .eql t x y u) ty e o N x (.oz v s j m0) y (.val (.slice none m cp))) (Lk (slE Γ.tt t) fun _=>TkA o v fun _ _ _ _ _=>All fun b:Bool=>Im (m0≠0→b=false) (N ((d, .val (.bool b)) :: e) o)):=⟨fun⟨p,hp,α,T,sz,l,f,rest,tk,hn⟩=>⟨fun ha hb=>⟨fun env hh G Os cn=>by
 obtain⟨w,h1,q,len,cap,hq,hjm,rfl⟩:=cn.get ha
 subst hq
 obtain⟨w',h2,h3⟩:=cn.get hb
 have h3:w'=_:=h3
 subst h3
 obtain⟨O,Os',cn2⟩:=cn.take tk
 obtain⟨⟨_,rows,hw,_⟩,_⟩:=cn2.hp.own
 obtain⟨ti,t1,t2,t3⟩:=slE_spec hp
 refine St.eql_snil Γ.ok t1 t2 h1 h2 (CN.mk (cn.put d (a:= .val (.bool (subA q s j (j+m0)).isNone)) rfl) ((hn.ok (subA q s j (j+m0)).isNone).k fun hne=>?_))
 rcases hw.ok with⟨e1,e2⟩|⟨b',of,cap',L,e1,_⟩
 ·cases e1;omega
 ·cases e1
  unfold subA
  split <;> rfl⟩⟩⟩
end
end Go.CF
namespace Go.Proofs.Ythlpimbhonihhaa
open Go Go.CF
def VotL(l:List EntS) : Prop:=∀e∈l,e.vot.length≤1000000
theorem cloneE_a(v:Value)(l:List EntS)(hl:l.length≤1000000000) : CallA Try.prog 85 [.ow v] [arrR v 89 6 l entC] fun r own=>∃w,r= .ow w∧own= [arrR w 89 6 l entC,arrR v 89 6 l entC]:=by
 refine CallA.of pg ordZ Try.func85 rfl Try.ntmps85 Try.results85 rfl fun h0 G0 O0=>?_
 repeat'(first|apply Sp.h|refine Lk.r rfl ?_|refine Rf.mk rfl ?_|apply Bd.mk|refine xP ?_|apply Im.mk|apply All.mk|refine xU ?_|refine Ce.l rfl ?_|(apply Fk.r;focus repeat' first|infer_instance|constructor)|refine xN ?_|refine Rf.mk ⟨rfl,rfl⟩ ?_|refine Rf.mk ⟨rfl,rfl,rfl⟩ ?_|refine Mp.same ?_|intro _)
 ·rename_i b hb hbt
  have hl0:l= []:=Decidable.byContradiction fun h=>by rw [hb h] at hbt;cases hbt
  subst hl0
  exact⟨_,_, .one (.nils (.z)),_,rfl,rfl⟩
 ·repeat'(first|fail)
  all_goals exact⟨_,_, .one (.same (.z)),_,rfl,rfl⟩
theorem cloneE_s(v:Value)(l:List EntS)(j m:Nat)(hjm:j+m≤l.length)(hl:l.length≤1000000000) : CallA Try.prog 85 [.os v 6 j m] [arrR v 89 6 l entC] fun r own=>∃w,r= .ow w∧own= [arrR w 89 6 ((l.drop j).take m) entC,arrR v 89 6 l entC]:=by
 refine CallA.of pg ordZ Try.func85 rfl Try.ntmps85 Try.results85 rfl fun h0 G0 O0=>?_
 repeat'(first|apply Sp.h|refine Lk.r rfl ?_|refine Rf.mk rfl ?_|apply Bd.mk|refine xP ?_|apply Im.mk|apply All.mk|refine xU ?_|refine Ce.l rfl ?_|(apply Fk.r;focus repeat' first|infer_instance|constructor)|refine xN ?_|refine Rf.mk ⟨rfl,rfl⟩ ?_|refine Rf.mk ⟨rfl,rfl,rfl⟩ ?_|refine Mp.same ?_|intro _)
 ·rename_i b hb hbt
  have hm0:m=0:=Decidable.byContradiction fun h=>by rw [hb h] at hbt;cases hbt
  subst hm0
  rw [List.take_zero]
  exact⟨_,_, .one (.nils (.z)),_,rfl,rfl⟩
 ·have hlen:((l.drop j).take m).length≤l.length:=by simp;omega
  repeat'(first|fail)
  all_goals exact⟨_,_, .one (.same (.z)),_,rfl,rfl⟩
theorem rclone_a(v:Value)(l:List EntS)(hl:l.length≤1000000)(hv:VotL l) : CallA Try.prog 57 [.ow v] [arrR v 89 6 l entC] fun r own=>∃w,r= .ow w∧own= [arrR w 89 6 l entC,arrR v 89 6 l entC]:=by
 have hc:=cloneE_a v l (by omega)
 refine CallA.of pg ordZ Try.func57 rfl Try.ntmps57 Try.results57 rfl fun h0 G0 O0=>?_
 repeat'(first|apply Sp.h|refine Lk.r rfl ?_|refine Rf.mk rfl ?_|fail)
 refine xW (hc) ?_
 rintro _ _ ⟨w,rfl,rfl⟩
 repeat'(first|apply Sp.h|refine Lk.r rfl ?_|refine Rf.mk rfl ?_|refine xU ?_|fail)
 refine CA.loop (fun i:Nat=>⟨[(3, .ow w),(8,it (l.length:Nat)),(9,it i)],[arrR w 89 6 l entC,arrR v 89 6 l entC]⟩) (fun i=>i≤l.length) (fun i=>l.length - i) 0 xE (zZ _) ?_
 intro i hi
 by_cases hin:i < l.length
 ·obtain⟨⟨a,b,c,d,e,vt⟩,hx⟩:=get_of hin
  have hcp:CallP Try.prog 70 [ints vt] (ints vt):=CallA.fz (by have:=hv _ (zM hx);simp only at this;omega) (clone_o vt (by have:=hv _ (zM hx);simp only at this;omega))
  have hst:=set_at hx
  repeat'(first|apply Sp.h|refine Lk.r rfl ?_|refine Rf.mk rfl ?_|refine xA ?_|refine xU ?_|refine xI ?_|refine xJ ?_|refine xV ?_|refine Up.r rfl ?_|refine xO ?_|(apply Cl.p (hcp);focus repeat' constructor))
  rw [hst]
  all_goals exact PA.lp (i+1) xE ⟨hin,by omega⟩
 ·have:i=l.length:=by omega
  subst this
  repeat'(first|apply Sp.h|refine Lk.r rfl ?_|refine Rf.mk rfl ?_|refine xB ?_|refine xN ?_|fail)
  exact⟨_,_, .one (.same (.z)),_,rfl,rfl⟩
theorem rclone_s(v:Value)(L:List EntS)(j m:Nat)(hjm:j+m≤L.length)(hl:L.length≤1000000)(hv:VotL L) : CallA Try.prog 57 [.os v 6 j m] [arrR v 89 6 L entC] fun r own=>∃w,r= .ow w∧own= [arrR w 89 6 ((L.drop j).take m) entC,arrR v 89 6 L entC]:=by
 have hc:=cloneE_s v L j m hjm (by omega)
 have hv2:VotL ((L.drop j).take m):=fun e he=>hv e (List.mem_of_mem_drop (zW he))
 have hlen:((L.drop j).take m).length≤L.length:=by simp;omega
 generalize (L.drop j).take m=l at hc hv2 hlen ⊢
 refine CallA.of pg ordZ Try.func57 rfl Try.ntmps57 Try.results57 rfl fun h0 G0 O0=>?_
 repeat'(first|apply Sp.h|refine Lk.r rfl ?_|refine Rf.mk rfl ?_|fail)
 refine xW (hc) ?_
 rintro _ _ ⟨w,rfl,rfl⟩
 repeat'(first|apply Sp.h|refine Lk.r rfl ?_|refine Rf.mk rfl ?_|refine xU ?_|fail)
 refine CA.loop (fun i:Nat=>⟨[(3, .ow w),(8,it (l.length:Nat)),(9,it i)],[arrR w 89 6 l entC,arrR v 89 6 L entC]⟩) (fun i=>i≤l.length) (fun i=>l.length - i) 0 xE (zZ _) ?_
 intro i hi
 by_cases hin:i < l.length
 ·obtain⟨⟨a,b,c,d,e,vt⟩,hx⟩:=get_of hin
  have hcp:CallP Try.prog 70 [ints vt] (ints vt):=CallA.fz (by have:=hv2 _ (zM hx);simp only at this;omega) (clone_o vt (by have:=hv2 _ (zM hx);simp only at this;omega))
  have hst:=set_at hx
  repeat'(first|apply Sp.h|refine Lk.r rfl ?_|refine Rf.mk rfl ?_|refine xA ?_|refine xU ?_|refine xI ?_|refine xJ ?_|refine xV ?_|refine Up.r rfl ?_|refine xO ?_|(apply Cl.p (hcp);focus repeat' constructor))
  rw [hst]
  all_goals exact PA.lp (i+1) xE ⟨hin,by omega⟩
 ·have:i=l.length:=by omega
  subst this
  repeat'(first|apply Sp.h|refine Lk.r rfl ?_|refine Rf.mk rfl ?_|refine xB ?_|refine xN ?_|fail)
  exact⟨_,_, .one (.same (.z)),_,rfl,rfl⟩
theorem cloneE_z(v:Value)(l:List EntS)(j m:Nat)(hjm:j+m≤l.length)(hl:l.length≤1000000000) : CallA Try.prog 85 [.oz v 6 j m] [arrR v 89 6 l entC] fun r own=>∃w,r= .ow w∧own= [arrR w 89 6 ((l.drop j).take m) entC,arrR v 89 6 l entC]:=by
 refine CallA.of pg ordZ Try.func85 rfl Try.ntmps85 Try.results85 rfl fun h0 G0 O0=>?_
 repeat'(first|apply Sp.h|refine Lk.r rfl ?_|refine Rf.mk rfl ?_|apply Bd.mk|refine xP ?_|apply Im.mk|apply All.mk|refine xU ?_|refine Ce.l rfl ?_|(apply Fk.r;focus repeat' first|infer_instance|constructor)|refine xN ?_|refine Rf.mk ⟨rfl,rfl⟩ ?_|refine Rf.mk ⟨rfl,rfl,rfl⟩ ?_|refine Mp.same ?_|intro _)
 ·rename_i b hb hbt
  have hm0:m=0:=Decidable.byContradiction fun h=>by rw [hb h] at hbt;cases hbt
  subst hm0
  rw [List.take_zero]
  exact⟨_,_, .one (.nils (.z)),_,rfl,rfl⟩
 ·have hlen:((l.drop j).take m).length≤l.length:=by simp;omega
  repeat'(first|fail)
  all_goals exact⟨_,_, .one (.same (.z)),_,rfl,rfl⟩
theorem rclone_z(v:Value)(L:List EntS)(j m:Nat)(hjm:j+m≤L.length)(hl:L.length≤1000000)(hv:VotL L) : CallA Try.prog 57 [.oz v 6 j m] [arrR v 89 6 L entC] fun r own=>∃w,r= .ow w∧own= [arrR w 89 6 ((L.drop j).take m) entC,arrR v 89 6 L entC]:=by
 have hc:=cloneE_z v L j m hjm (by omega)
 have hv2:VotL ((L.drop j).take m):=fun e he=>hv e (List.mem_of_mem_drop (zW he))
 have hlen:((L.drop j).take m).length≤L.length:=by simp;omega
 generalize (L.drop j).take m=l at hc hv2 hlen ⊢
 refine CallA.of pg ordZ Try.func57 rfl Try.ntmps57 Try.results57 rfl fun h0 G0 O0=>?_
 repeat'(first|apply Sp.h|refine Lk.r rfl ?_|refine Rf.mk rfl ?_|fail)
 refine xW (hc) ?_
 rintro _ _ ⟨w,rfl,rfl⟩
 repeat'(first|apply Sp.h|refine Lk.r rfl ?_|refine Rf.mk rfl ?_|refine xU ?_|fail)
 refine CA.loop (fun i:Nat=>⟨[(3, .ow w),(8,it (l.length:Nat)),(9,it i)],[arrR w 89 6 l entC,arrR v 89 6 L entC]⟩) (fun i=>i≤l.length) (fun i=>l.length - i) 0 xE (zZ _) ?_
 intro i hi
 by_cases hin:i < l.length
 ·obtain⟨⟨a,b,c,d,e,vt⟩,hx⟩:=get_of hin
  have hcp:CallP Try.prog 70 [ints vt] (ints vt):=CallA.fz (by have:=hv2 _ (zM hx);simp only at this;omega) (clone_o vt (by have:=hv2 _ (zM hx);simp only at this;omega))
  have hst:=set_at hx
  repeat'(first|apply Sp.h|refine Lk.r rfl ?_|refine Rf.mk rfl ?_|refine xA ?_|refine xU ?_|refine xI ?_|refine xJ ?_|refine xV ?_|refine Up.r rfl ?_|refine xO ?_|(apply Cl.p (hcp);focus repeat' constructor))
  rw [hst]
  all_goals exact PA.lp (i+1) xE ⟨hin,by omega⟩
 ·have:i=l.length:=by omega
  subst this
  repeat'(first|apply Sp.h|refine Lk.r rfl ?_|refine Rf.mk rfl ?_|refine xB ?_|refine xN ?_|fail)
  exact⟨_,_, .one (.same (.z)),_,rfl,rfl⟩
def enO : Nat→Ord×(Nat→Cls):=fun id=>bif Nat.beq id 1 then(.one 0 (.one 1 (.one 2 (.one 3 (.one 4 (.one 5 (.one 6 (.one 7 (.one 8 (.one 9 (.one 10 (.one 11 (.one 12 (.one 13 (.one 14 (.one 15 .done))))))))))))))),clOf [.pure, .pure, .pure, .read, .pure, .pure, .pure, .pure, .pure, .pure, .read, .pure, .pure, .pure, .loud, .pure]) else(.done,clOf [])
def adO : Nat→Ord×(Nat→Cls):=fun id=>bif Nat.beq id 1 then(.one 0 (.one 1 (.one 2 (.one 3 (.one 5 (.alt 4 (.one 6 (.one 7 (.one 8 (.one 9 (.one 10 (.one 11 .done)))))) (.alt 6 (.alt 4 (.one 7 (.one 8 (.one 9 (.one 10 (.one 11 .done))))) (.alt 7 (.one 4 (.one 8 (.one 9 (.one 10 (.one 11 .done))))) (.none))) (.none))))))),clOf [.pure, .pure, .pure, .pure, .ext, .read, .ext, .loud, .loud, .pure, .pure, .loud]) else(.done,clOf [])
theorem lentries_a(p:Nat)(v:Value)(g:LogN)(hl:g.ents.length≤100000)(hv:VotL g.ents) : CallA Try.prog 36 [pm p,it 1] (logR p v g) fun r own=>∃w,r= .ow w∧own=arrR w 89 6 g.ents entC :: logR p v g:=by
 have hc:=rclone_s v g.ents (1 - Nat.succ 0) (g.ents.length - (1 - Nat.succ 0)) (by simp) (by omega) hv
 rw [show(g.ents.drop (1 - Nat.succ 0)).take (g.ents.length - (1 - Nat.succ 0))=g.ents by simp] at hc
 refine CallA.of pg enO Try.func36 rfl Try.ntmps36 Try.results36 rfl fun h0 G0 O0=>?_
 repeat'(first|apply Sp.h|refine Lk.r rfl ?_|refine Rf.mk rfl ?_|refine OpK.r rfl ?_|refine xU ?_|refine xT ?_|(apply Jx.r;(focus exact rfl);(focus first|omega|(simp;done)|(simp;omega)))|refine xD ?_|refine xO ?_|fail)
 refine xW (hc) ?_
 rintro _ _ ⟨w,rfl,rfl⟩
 repeat'(first|apply Sp.h|refine Lk.r rfl ?_|refine OpK.r rfl ?_|refine xN ?_|fail)
 all_goals exact⟨_,_, .one (.same (.z)),_,rfl,rfl⟩
theorem ladd_a(p:Nat)(v:Value)(g:LogN)(e:EntS)(hl:g.ents.length≤100000)(hv:e.vot.length≤1000000) : CallA Try.prog 94 [pm p,entA e] (logR p v g) fun r own=>r=it ((g.ents.length:Nat)+1)∧∃v',own=logR p v' { g with ents:=g.ents ++ [e] }:=by
 have hc:∀u,CallA Try.prog 57 [.ow u] [arrR u 89 6 [entC e] id] fun r own=>∃w,r= .ow w∧own= [arrR w 89 6 [e] entC,arrR u 89 6 [entC e] id]:=fun u=>by
  have h:=rclone_a u [e] (by simp) (fun x hx=>by rw [zH.1 hx];exact hv)
  rwa [show arrR u 89 6 [e] entC=arrR u 89 6 [entC e] id from arrR_eq rfl] at h
 refine CallA.of pg adO Try.func94 rfl Try.ntmps94 Try.results94 rfl fun h0 G0 O0=>?_
 repeat'(first|apply Sp.h|refine Lk.r rfl ?_|refine Rf.mk rfl ?_|refine OpK.r rfl ?_|apply All.mk|refine xT ?_|refine Ch.l ⟨rfl,rfl⟩ ?_|(apply Fk.r;focus repeat' first|infer_instance|constructor)|refine Rf.mk ⟨rfl,rfl,rfl⟩ ?_|refine xD ?_|exact trivial|apply RA'.both|intro _)
 all_goals
  refine xW (hc _) ?_
  rintro _ _ ⟨w,rfl,rfl⟩
  repeat'(first|apply Sp.h|refine Lk.r rfl ?_|refine Rf.mk rfl ?_|refine OpK.r rfl ?_|refine xP ?_|apply All.mk|refine xU ?_|refine xT ?_|refine Ce.r ?_|refine xV ?_|refine xN ?_|refine Rf.mk ⟨rfl,rfl⟩ ?_|refine Mp.same ?_|intro _)
  all_goals exact⟨_,_, .one (.same (.z)),by simp,_,rfl⟩
end Go.Proofs.Ythlpimbhonihhaa
namespace Go.CF
open Go
section
variable {Γ:Cx} {k:List KI} {e:EA} {o:List Res} {N:NA} {c:Cls} {d:Tmp} {ty:TypeId} {x y z:Operand} {t u:TypeId} {kk:IntKind} {i:Int}
theorem ALe.agg{l m:List AV}(r:RLe l m) : ALe (.agg l) (.agg m):=⟨fun⟨vs,h1,h2⟩=>⟨vs,h1,⟨r.rep h2.t,h2.one⟩⟩⟩
end

/-! ### The library's sorts -/
section
open Go.Sort
theorem putCells_list{α:Type}[Inhabited α](enc:α→Value)(o:Nat)(d:List α)(c:List Value)(hd:o+d.length≤c.length) :
  putCells enc o d.toArray c.toArray=(c.take o ++ d.map enc ++ c.drop (o+d.length)).toArray:=by
 apply Array.ext'
 simp only [putCells]
 refine List.ext_getElem? fun q=>?_
 simp only [Array.toList_mapIdx,List.getElem?_mapIdx,List.size_toArray]
 by_cases g1:q < o
 ·have h2:q < c.length:=by omega
  rw [List.append_assoc,zI (by simp;omega),List.getElem?_take,if_pos g1,zE h2,Option.map_some,if_neg (by omega)]
 ·by_cases g2:q < o+d.length
  ·have h2:q < c.length:=by omega
   have h3:q - o < d.length:=by omega
   rw [zI (by simp;omega),zJ (by simp;omega),zE h2,Option.map_some,if_pos (by omega),zN,Nat.min_eq_left (by omega),zG,zE h3]
   simp [getElem!_pos,h3]
  ·rw [zJ (by simp;omega),List.getElem?_drop]
   simp only [zP,zN,List.length_map,Nat.min_eq_left (show o≤c.length by omega)]
   rw [show o+d.length+(q - (o+d.length))=q by omega]
   cases hq:c[q]? with
   | none=>rfl
   | some x=>rw [Option.map_some,if_neg (by omega)]
theorem flat_one{α β:Type}(g:α→β) :∀l:List α,(l.map fun x=> [g x]).flatten=l.map g
 | []=>rfl
 | a :: l=>by simp [flat_one g l]
theorem put_own{α:Type}[Inhabited α]{enc:α→Value}{w w':World}{b of n cap len T sz:Nat}{L:List Value}{ds:List α}{os:Array Obj}(hb:Blk w.heap b T L)(ho:of+cap * sz≤L.length)(hlen:len≤cap)(hd:ds.length=len * sz)
  (hw':w'=Sort.grow (putRow enc (Sort.ahead w n) b of ds.toArray) os) :
  Same w w'∧FPx (fun x=>¬x=b) w.heap w'.heap∧Own w'.heap (.slice (some ⟨b,of,none⟩) len cap) T sz len (ds.map enc):=by
 have hm:len * sz≤cap * sz:=zU _ hlen
 have hg:=hb.get
 have hlt:=(zA.1 hg).1
 have hh:w'.heap=w.heap.modify b (onCells (putCells enc of ds.toArray)) ++ os:=by rw [hw'];rfl
 refine⟨⟨by subst hw';rfl,by subst hw';rfl,by subst hw';rfl,by subst hw';exact Nat.le_add_right _ _,by rw [hh];simp,fun k o hk ho=>?_⟩,⟨?_,fun q hq hl=>?_⟩,by simp [hd], .inr ⟨b,of,cap,L.take of ++ ds.map enc ++ L.drop (of+ds.length),rfl,⟨?_⟩, ?_,hlen, ?_⟩⟩
 ·have hkl:=(zA.1 hk).1
  rw [hh,Array.getElem?_append_left (by simpa using hkl),Array.getElem?_modify]
  by_cases hkb:b=k
  ·subst hkb;rw [hg] at hk;cases hk;cases ho
  ·rw [if_neg hkb];exact hk
 ·rw [hh];simp
 ·rw [hh,Array.getElem?_append_left (by simpa using hl),Array.getElem?_modify,if_neg (fun e=>hq e.symm)]
 ·rw [hh,Array.getElem?_append_left (by simpa using hlt),Array.getElem?_modify,if_pos rfl,hg,Option.map_some]
  simp only [onCells]
  rw [putCells_list enc of ds L (by omega)]
 ·simp only [zP,zN,List.length_map,List.length_drop]
  omega
 ·rw [List.append_assoc,List.drop_append_of_le_length (by simp;omega),List.drop_eq_nil_of_le (by simp;omega),List.nil_append,List.take_append_of_le_length (by simp;omega),List.take_of_length_le (by simp;omega)]
theorem holds_blk{w:World}{b of T:Nat}{L:List Value}(hb:Blk w.heap b T L){α:Type}[Inhabited α](enc:α→Value)(ds:List α)(hd:(L.drop of).take ds.length=ds.map enc) : Holds enc w b of ds.toArray:=by
 intro j hj
 have hj:j < ds.length:=by simpa using hj
 have h1:((L.drop of).take ds.length)[j]?=some (enc ds[j]):=by rw [hd];simp [hj]
 rw [List.getElem?_take,if_pos hj,List.getElem?_drop] at h1
 have hg:=hb.get
 constructor
 ·simp only [World.cell?,hg]
  simp [h1,hj]
 ·simp [World.frozen?,hg]
open Go.Proofs in
theorem sortI_a{P:Program}{ρ:Shelf.Ren}(L:Lays.n189 P ρ)(v:Value)(T:TypeId)(l:List Int)(hl:l.length≤1000000) :
  CallA P (ρ.f 189) [.ow v] [arrR v T 1 l fun x=> [.val (.int .i64 x)]] fun r own=>r= .tup []∧own= [arrR v T 1 (l.mergeSort fun x y=>decide (x≤y)) fun x=> [.val (.int .i64 x)]]:=by
 refine⟨fun h G Os vs hr hp=>?_⟩
 match vs,hr with
 | [w0],⟨⟨h1,p,len,cap,h2⟩,_⟩ =>
  subst h1
  match Os,hp with
  | [O],hp =>
   obtain⟨⟨hO,rows,hown,hrows⟩,_⟩:=hp.own
   have hflat:rows.flatten=l.map (Value.int .i64):=by
    have h3:rows=l.map fun x=> [Value.int .i64 x]:=by
     refine List.ext_getElem? fun q=>?_
     rw [zG]
     cases hq:l[q]? with
     | none =>
      have:=List.getElem?_eq_none_iff.1 hq
      have:=hrows.len
      rw [zX (by omega)];rfl
     | some x =>
      obtain⟨row,g1,g2,_⟩:=hrows.at hq
      rw [g1]
      have:row= [Value.int .i64 x]:=repT_val (r:= [.int .i64 x]) g2.t
      rw [this];rfl
    rw [h3,flat_one]
   have fin:∀rows',rows'=(l.mergeSort fun x y=>decide (x≤y)).map (fun x=> [Value.int .i64 x])→∀h' G',Rows h' G' 1 rows' (l.mergeSort fun x y=>decide (x≤y)) fun x=> [AV.val (.int .i64 x)]:=by
    rintro _ rfl h' G'
    refine⟨by simp,fun q r x g1 g2=>?_,fun r hr=>?_⟩
    ·rw [zG,g2] at g1
     cases g1
     exact⟨⟨rfl,trivial⟩,by simp [Value.oneCell']⟩
    ·obtain⟨x,_,rfl⟩:=List.mem_map.1 hr;rfl
   have hff:∀s:List Int,(s.map fun x=> [Value.int .i64 x]).flatten=s.map (Value.int .i64):=fun s=>flat_one _ s
   rw [hflat] at hown
   refine⟨fun w hw=>?_⟩
   subst hw
   rcases hown.ok with⟨he,h0⟩|⟨b,of,cap',L',he,hb,h3,h4,h5⟩
   ·have hl0:l= []:=zQ h0
    subst hl0
    subst he
    refine(Any.slices_Sort_int_none L none 0 w).mono ?_
    rintro e w' ⟨rfl,rfl⟩
    exact⟨_,rfl,Same.refl _, .tup [],_,G,[O],⟨rfl,rfl⟩,⟨[],rfl,trivial⟩,⟨⟨⟨hO,rows,by rw [hflat];simpa using hown,by simpa using hrows⟩,trivial⟩,hp.g,hp.g0,hp.o,hp.d,hp.fp⟩⟩
   ·subst he
    rw [Nat.mul_one] at h3 h5
    have hH:=holds_blk hb (Value.int .i64) l (by simpa using h5)
    refine(calls_of_every_depth fun D=>AnyS.slices_Sort_int_in L.lead D b of cap' l w hH hb.lt (by omega)).mono ?_
    rintro e w' ⟨rfl,n,os,hw'⟩
    obtain⟨k1,k2,k3⟩:=put_own (ds:=l.mergeSort fun x y=>decide (x≤y)) (sz:=1) (len:=l.length) (cap:=cap') hb (by omega) h4 (by simp) hw'
    have hOb:∀x,O x↔x=b:=fun x=>by rw [hO];simp [blkOf]
    have k2':FPx (fun x=>¬O x) w.heap w'.heap:=k2.mono fun x hx e=>hx ((hOb x).2 e)
    obtain⟨k4,_⟩:=hp.upd (R':=arrR (.slice (some ⟨b,of,none⟩) l.length cap') T 1 (l.mergeSort fun x y=>decide (x≤y)) fun x=> [.val (.int .i64 x)]) (O':=O) k2'
     (fun x hx=>⟨Nat.lt_of_lt_of_le (hp.o O (by simp) x hx).1 k2.size, .inl hx⟩)
     ⟨hO,_,by rw [hff];simpa using k3,fin _ rfl _ _⟩
    exact⟨_,rfl,k1, .tup [],_,G,[O],⟨rfl,rfl⟩,⟨[],rfl,trivial⟩,k4⟩
end
end Go.CF
namespace Go.Proofs.Ythlpimbhonihhaa
open Go Go.CF
theorem lother_a(p:Nat)(v:Value)(g:LogN)(r:Int) : CallA Try.prog 84 [pm p,it r] (logR p v g) fun x own=>x=bl (othF g.n g.i r)∧own=logR p v g:=by
 refine CallA.of pg ordZ Try.func84 rfl Try.ntmps84 Try.results84 rfl fun h0 G0 O0=>?_
 repeat'(first|apply Sp.h|refine Lk.r rfl ?_|refine Rf.mk rfl ?_|refine xA ?_|refine xB ?_|apply Bd.mk|refine xT ?_|refine xN ?_|intro _)
 all_goals exact⟨_,_, .one (.same (.z)),vb (by first|exact(zT (by omega)).symm|exact(zF (by omega)).symm|exact zD.2 (by omega)),rfl⟩
def begF(g:LogN)(x:Int)(i:Nat) : LogN:={ g with o0:=if 0 < i then(x,0) else g.o0,o1:=if 1 < i then(x,0) else g.o1,o2:=if 2 < i then(x,0) else g.o2,o3:=if 3 < i then(x,0) else g.o3,o4:=if 4 < i then(x,0) else g.o4 }
def ent0(t:Int) : EntS:=⟨t,0,0,0,0,[]⟩
def leadF(g:LogN)(t:Int) : LogN×Int×Int :=
 if t < 1∨1048576 < t∨t < trmI g.ents (g.ents.length:Nat) then(g,0,1)
 else if 1024≤g.ents.length then(g,0,8)
 else(begF { g with ents:=g.ents ++ [ent0 t],leads:=t } (g.ents.length+1) 5,g.ents.length+1,0)
theorem lead_a(p:Nat)(v:Value)(g:LogN)(t:Int)(hl:g.ents.length≤100000) : CallA Try.prog 79 [pm p,it t] (logR p v g) fun r own=>r= .tup [it (leadF g t).2.1,it (leadF g t).2.2]∧∃v',own=logR p v' (leadF g t).1:=by
 have ht:=lterm_a p v g (g.ents.length:Nat) hl (by omega)
 unfold leadF
 by_cases h:t < 1∨1048576 < t∨t < trmI g.ents (g.ents.length:Nat)
 ·rw [if_pos h]
  generalize trmI g.ents (g.ents.length:Nat)=y at ht h
  refine CallA.of pg ordZ Try.func79 rfl Try.ntmps79 Try.results79 rfl fun h0 G0 O0=>?_
  by_cases h1:t < 1
  ·repeat'(first|apply Sp.h|refine Lk.r rfl ?_|refine Rf.mk rfl ?_|refine xA ?_|refine xN ?_|fail)
   all_goals exact⟨_,_, .tup (.same (.same (.z))),rfl,_,rfl⟩
  by_cases h2:1048576 < t
  ·repeat'(first|apply Sp.h|refine Lk.r rfl ?_|refine Rf.mk rfl ?_|refine xA ?_|refine xB ?_|refine xN ?_|fail)
   all_goals exact⟨_,_, .tup (.same (.same (.z))),rfl,_,rfl⟩
  have h3:t < y:=(h.resolve_left h1).resolve_left h2
  repeat'(first|apply Sp.h|refine Lk.r rfl ?_|refine Rf.mk rfl ?_|refine xA ?_|refine xB ?_|refine xU ?_|refine xT ?_|refine xN ?_|(((apply Cl.use (ht);(focus repeat' constructor);(focus repeat' constructor);focus rfl));(rintro _ _ ⟨rfl,rfl⟩)))
  all_goals exact⟨_,_, .tup (.same (.same (.z))),rfl,_,rfl⟩
 rw [if_neg h]
 have h1:¬t < 1:=fun h9=>h (.inl h9)
 have h2:¬1048576 < t:=fun h9=>h (.inr (.inl h9))
 have h3:¬t < trmI g.ents (g.ents.length:Nat):=fun h9=>h (.inr (.inr h9))
 generalize trmI g.ents (g.ents.length:Nat)=y at ht h3
 by_cases h4:1024≤g.ents.length
 ·rw [if_pos h4]
  refine CallA.of pg ordZ Try.func79 rfl Try.ntmps79 Try.results79 rfl fun h0 G0 O0=>?_
  repeat'(first|apply Sp.h|refine Lk.r rfl ?_|refine Rf.mk rfl ?_|refine xA ?_|refine xB ?_|refine xU ?_|refine xT ?_|refine xN ?_|(((apply Cl.use (ht);(focus repeat' constructor);(focus repeat' constructor);focus rfl));(rintro _ _ ⟨rfl,rfl⟩)))
  all_goals exact⟨_,_, .tup (.same (.same (.z))),rfl,_,rfl⟩
 rw [if_neg h4]
 have ha:CallA Try.prog 94 [pm p, .agg [it t,it 0,it 0,it 0,it 0, .val (.slice none 0 0)]] (logR p v g) fun r own=>r=it ((g.ents.length:Nat)+1)∧∃v',own=logR p v' { g with ents:=g.ents ++ [ent0 t] }:=CallA.args (.cons (ALe.refl _) (.cons (.agg (by(repeat'(first|exact RLe.nil|(apply RLe.cons;(focus first|exact ALe.refl _|exact ALe.nilow|exact ALe.nil)))))) .nil)) (ladd_a p v g (ent0 t) hl (by simp [ent0]))
 refine CallA.of pg ordZ Try.func79 rfl Try.ntmps79 Try.results79 rfl fun h0 G0 O0=>?_
 repeat'(first|apply Sp.h|refine Lk.r rfl ?_|refine Rf.mk rfl ?_|refine xB ?_|refine xU ?_|refine xT ?_|refine xV ?_|(apply Fk.r;focus repeat' first|infer_instance|constructor)|(((apply Cl.use (ht);(focus repeat' constructor);(focus repeat' constructor);focus rfl));(rintro _ _ ⟨rfl,rfl⟩))|(((apply Cl.use (ha);(focus repeat' constructor);(focus repeat' constructor);focus rfl));(rintro _ _ ⟨rfl,v1,rfl⟩)))
 refine CA.loop (fun i:Nat=>⟨[(0,pm p),(6,it ((g.ents.length:Nat)+1)),(41,it i)],logR p v1 (begF { g with ents:=g.ents ++ [ent0 t],leads:=t } (g.ents.length+1) i)⟩) (fun i=>i≤5) (fun i=>5 - i) 0 xE (by omega) ?_
 intro i hi
 by_cases hin:i < 5
 ·rcases(show i=0∨i=1∨i=2∨i=3∨i=4 by omega) with rfl|rfl|rfl|rfl|rfl
  ·repeat'(first|apply Sp.h|refine Lk.r rfl ?_|refine Rf.mk rfl ?_|refine xA ?_|refine xT ?_|(apply SetAsk.r;focus repeat' constructor)|(apply Fk.r;focus repeat' first|infer_instance|constructor)|(apply Jx.r;(focus exact rfl);(focus first|omega|(simp;done)|(simp;omega)))|refine xO ?_|fail)
   exact PA.lp 1 xE ⟨by omega,by omega⟩
  ·repeat'(first|apply Sp.h|refine Lk.r rfl ?_|refine Rf.mk rfl ?_|refine xA ?_|refine xT ?_|(apply SetAsk.r;focus repeat' constructor)|(apply Fk.r;focus repeat' first|infer_instance|constructor)|(apply Jx.r;(focus exact rfl);(focus first|omega|(simp;done)|(simp;omega)))|refine xO ?_|fail)
   exact PA.lp 2 xE ⟨by omega,by omega⟩
  ·repeat'(first|apply Sp.h|refine Lk.r rfl ?_|refine Rf.mk rfl ?_|refine xA ?_|refine xT ?_|(apply SetAsk.r;focus repeat' constructor)|(apply Fk.r;focus repeat' first|infer_instance|constructor)|(apply Jx.r;(focus exact rfl);(focus first|omega|(simp;done)|(simp;omega)))|refine xO ?_|fail)
   exact PA.lp 3 xE ⟨by omega,by omega⟩
  ·repeat'(first|apply Sp.h|refine Lk.r rfl ?_|refine Rf.mk rfl ?_|refine xA ?_|refine xT ?_|(apply SetAsk.r;focus repeat' constructor)|(apply Fk.r;focus repeat' first|infer_instance|constructor)|(apply Jx.r;(focus exact rfl);(focus first|omega|(simp;done)|(simp;omega)))|refine xO ?_|fail)
   exact PA.lp 4 xE ⟨by omega,by omega⟩
  ·repeat'(first|apply Sp.h|refine Lk.r rfl ?_|refine Rf.mk rfl ?_|refine xA ?_|refine xT ?_|(apply SetAsk.r;focus repeat' constructor)|(apply Fk.r;focus repeat' first|infer_instance|constructor)|(apply Jx.r;(focus exact rfl);(focus first|omega|(simp;done)|(simp;omega)))|refine xO ?_|fail)
   exact PA.lp 5 xE ⟨by omega,by omega⟩
 ·have:i=5:=by omega
  subst this
  repeat'(first|apply Sp.h|refine Lk.r rfl ?_|refine Rf.mk rfl ?_|refine xB ?_|refine xN ?_|fail)
  exact⟨_,_, .tup (.same (.same (.z))),rfl,_,rfl⟩
def withT(e:EntS)(t:Int) : EntS:={ e with term:=t }
def propF(g:LogN)(e:EntS) : LogN×Int×Int :=
 if g.leads=0 then(g,0,9)
 else if e.kind=0∨rigB g.n (withT e g.leads)=false then(g,0,1)
 else if 1024≤g.ents.length then(g,0,8)
 else({ g with ents:=g.ents ++ [withT e g.leads] },g.ents.length+1,0)
theorem propose_a(p:Nat)(v:Value)(g:LogN)(e:EntS)(hl:g.ents.length≤100000)(hv:e.vot.length≤1000000) : CallA Try.prog 74 [pm p,entA e] (logR p v g) fun r own=>r= .tup [it (propF g e).2.1,it (propF g e).2.2]∧∃v',own=logR p v' (propF g e).1:=by
 have hr:=right_p g.n (withT e g.leads)
 have ha:=ladd_a p v g (withT e g.leads) hl hv
 unfold propF
 by_cases h1:g.leads=0
 ·rw [if_pos h1]
  refine CallA.of pg ord74 Try.func74 rfl Try.ntmps74 Try.results74 rfl fun h0 G0 O0=>?_
  repeat'(first|apply Sp.h|refine Lk.r rfl ?_|refine Rf.mk rfl ?_|refine xA ?_|apply All.mk|refine xT ?_|refine xV ?_|refine xN ?_|intro _)
  all_goals exact⟨_,_, .tup (.same (.same (.z))),rfl,_,rfl⟩
 rw [if_neg h1]
 by_cases h2:e.kind=0
 ·rw [if_pos (.inl h2)]
  refine CallA.of pg ord74 Try.func74 rfl Try.ntmps74 Try.results74 rfl fun h0 G0 O0=>?_
  repeat'(first|apply Sp.h|refine Lk.r rfl ?_|refine Rf.mk rfl ?_|refine xA ?_|refine xB ?_|refine OpK.r rfl ?_|apply All.mk|refine xT ?_|refine xV ?_|refine xN ?_|refine xD ?_|intro _)
  all_goals exact⟨_,_, .tup (.same (.same (.z))),rfl,_,rfl⟩
 generalize hb:rigB g.n (withT e g.leads)=b at hr ⊢
 clear hb
 cases b
 ·rw [if_pos (.inr rfl)]
  refine CallA.of pg ord74 Try.func74 rfl Try.ntmps74 Try.results74 rfl fun h0 G0 O0=>?_
  repeat'(first|apply Sp.h|refine Lk.r rfl ?_|refine Rf.mk rfl ?_|refine xB ?_|refine OpK.r rfl ?_|refine All.mk fun _=>?_|refine xT ?_|refine Ch.l ⟨rfl,rfl⟩ ?_|refine xV ?_|refine xN ?_|refine xD ?_|(apply Cl.p (hr);focus repeat' constructor))
  all_goals exact⟨_,_, .tup (.same (.same (.z))),rfl,_,rfl⟩
 rw [if_neg (fun h=>h.elim h2 fun h=>by cases h)]
 by_cases h3:1024≤g.ents.length
 ·rw [if_pos h3]
  refine CallA.of pg ord74 Try.func74 rfl Try.ntmps74 Try.results74 rfl fun h0 G0 O0=>?_
  repeat'(first|apply Sp.h|refine Lk.r rfl ?_|refine Rf.mk rfl ?_|refine xA ?_|refine xB ?_|refine OpK.r rfl ?_|refine All.mk fun _=>?_|refine xU ?_|refine xT ?_|refine Ch.l ⟨rfl,rfl⟩ ?_|refine xV ?_|refine xN ?_|refine xD ?_|(apply Cl.p (hr);focus repeat' constructor))
  all_goals exact⟨_,_, .tup (.same (.same (.z))),rfl,_,rfl⟩
 ·rw [if_neg h3]
  refine CallA.of pg ord74 Try.func74 rfl Try.ntmps74 Try.results74 rfl fun h0 G0 O0=>?_
  repeat'(first|apply Sp.h|refine Lk.r rfl ?_|refine Rf.mk rfl ?_|refine xA ?_|refine xB ?_|refine OpK.r rfl ?_|refine All.mk fun _=>?_|refine xU ?_|refine xT ?_|refine Ch.l ⟨rfl,rfl⟩ ?_|refine xV ?_|refine xN ?_|refine xD ?_|(apply Cl.p (hr);focus(repeat' constructor);done)|(((apply Cl.use (ha);(focus repeat' constructor);(focus repeat' constructor);focus rfl));(rintro _ _ ⟨rfl,v1,rfl⟩)))
  all_goals exact⟨_,_, .tup (.same (.same (.z))),rfl,_,rfl⟩
def log0(n i:Int)(l:List EntS) : LogN:=⟨n,i,l,0,0,(0,0),(0,0),(0,0),(0,0),(0,0)⟩
def ResL(n i:Int)(l:List EntS) : Prop:=(1≤n∧n≤5)∧(0≤i∧i < n)∧valB n l=true
instance (n i:Int) (l:List EntS):Decidable (ResL n i l):=by unfold ResL;infer_instance
theorem lrestore_a(n i:Int)(l:List EntS)(hl:l.length≤100000000)(hv:VotL l) : CallA Try.prog 49 [it n,it i,entsA l] [] fun r own=>(¬ResL n i l∧r= .tup [.val (.pointer none),it 1]∧own= [])∨(ResL n i l∧∃p v,r= .tup [pm p,it 0]∧own=logR p v (log0 n i l)):=by
 have hr:=rvalid_p n l
 have hc:=rclone_o l hl hv
 refine CallA.of pg ordZ Try.func49 rfl Try.ntmps49 Try.results49 rfl fun h0 G0 O0=>?_
 by_cases h1:n < 1
 ·repeat'(first|apply Sp.h|refine Lk.r rfl ?_|refine Rf.mk rfl ?_|refine xA ?_|refine xN ?_|fail)
  all_goals exact⟨_,_, .tup (.same (.same (.z))), .inl ⟨fun h=>by have:=h.1;omega,rfl,rfl⟩⟩
 by_cases h2:5 < n
 ·repeat'(first|apply Sp.h|refine Lk.r rfl ?_|refine Rf.mk rfl ?_|refine xA ?_|refine xB ?_|refine xN ?_|fail)
  all_goals exact⟨_,_, .tup (.same (.same (.z))), .inl ⟨fun h=>by have:=h.1;omega,rfl,rfl⟩⟩
 by_cases h3:i < 0
 ·repeat'(first|apply Sp.h|refine Lk.r rfl ?_|refine Rf.mk rfl ?_|refine xA ?_|refine xB ?_|refine xN ?_|fail)
  all_goals exact⟨_,_, .tup (.same (.same (.z))), .inl ⟨fun h=>by have:=h.2.1;omega,rfl,rfl⟩⟩
 by_cases h4:n≤i
 ·repeat'(first|apply Sp.h|refine Lk.r rfl ?_|refine Rf.mk rfl ?_|refine xA ?_|refine xB ?_|refine xN ?_|fail)
  all_goals exact⟨_,_, .tup (.same (.same (.z))), .inl ⟨fun h=>by have:=h.2.1;omega,rfl,rfl⟩⟩
 cases hb:valB n l
 ·rw [hb] at hr
  repeat'(first|apply Sp.h|refine Lk.r rfl ?_|refine Rf.mk rfl ?_|refine xB ?_|refine xN ?_|(apply Cl.p (hr);focus repeat' constructor))
  all_goals exact⟨_,_, .tup (.same (.same (.z))), .inl ⟨fun h=>(by have h9:=h.2.2;rw [hb] at h9;exact Bool.false_ne_true h9),rfl,rfl⟩⟩
 ·rw [hb] at hr
  repeat'(first|apply Sp.h|refine Lk.r rfl ?_|refine Rf.mk rfl ?_|refine xA ?_|refine xB ?_|(apply Cl.p (hr);focus repeat' constructor))
  (refine Cl.use (hc) (by repeat'(first|exact Lend.nil|apply Lend.keep|fail)) .nil rfl ?_;rintro _ _ ⟨_,rfl,rfl⟩)
  repeat'(first|apply Sp.h|refine Lk.r rfl ?_|refine Rf.mk rfl ?_|apply All.mk|(apply Fk.r;focus repeat' first|infer_instance|constructor)|refine xN ?_|intro _)
  all_goals exact⟨_,_, .tup (.same (.same (.z))), .inr ⟨⟨by omega,by omega,hb⟩,_,_,rfl,rfl⟩⟩
def getO(g:LogN)(r:Int) : Int×Int:=if r=0 then g.o0 else if r=1 then g.o1 else if r=2 then g.o2 else if r=3 then g.o3 else g.o4
def sendM(g:LogN)(to:Int) : MsgS:=⟨7,g.i,to,jk0,g.leads,(getO g to).1 - 1,trmI g.ents ((getO g to).1 - 1),g.commit,false,some ((g.ents.drop ((getO g to).1 - 1).toNat).take ((min ((getO g to).1 - 1+16) (g.ents.length:Nat)).toNat - ((getO g to).1 - 1).toNat))⟩
def sendF(g:LogN)(to:Int) : MsgS×Int:=if g.leads=0 then(msg0 0 0 0 0 0 0 false,9) else if othF g.n g.i to=false then(msg0 0 0 0 0 0 0 false,2) else(sendM g to,0)
def seO : Nat→Ord×(Nat→Cls):=fun id=>bif Nat.beq id 7 then(.one 0 (.one 1 (.one 2 (.one 4 (.one 5 (.one 6 (.one 7 (.one 9 (.one 10 (.one 11 (.one 13 (.one 14 (.one 15 (.one 17 (.one 18 (.one 19 (.one 20 (.one 21 (.one 22 (.one 23 (.one 24 (.alt 3 (.alt 8 (.alt 12 (.alt 16 (.one 25 (.one 26 (.one 27 (.one 28 .done)))) (.alt 25 (.one 16 (.one 26 (.one 27 (.one 28 .done)))) (.none))) (.alt 16 (.one 12 (.one 25 (.one 26 (.one 27 (.one 28 .done))))) (.none))) (.alt 12 (.alt 8 (.alt 16 (.one 25 (.one 26 (.one 27 (.one 28 .done)))) (.alt 25 (.one 16 (.one 26 (.one 27 (.one 28 .done)))) (.none))) (.alt 16 (.alt 8 (.one 25 (.one 26 (.one 27 (.one 28 .done)))) (.alt 25 (.one 8 (.one 26 (.one 27 (.one 28 .done)))) (.none))) (.alt 25 (.alt 8 (.one 16 (.one 26 (.one 27 (.one 28 .done)))) (.alt 16 (.one 8 (.one 26 (.one 27 (.one 28 .done)))) (.none))) (.none)))) (.alt 16 (.alt 8 (.one 12 (.one 25 (.one 26 (.one 27 (.one 28 .done))))) (.alt 12 (.alt 8 (.one 25 (.one 26 (.one 27 (.one 28 .done)))) (.alt 25 (.one 8 (.one 26 (.one 27 (.one 28 .done)))) (.none))) (.none))) (.none)))) (.alt 8 (.alt 3 (.alt 12 (.alt 16 (.one 25 (.one 26 (.one 27 (.one 28 .done)))) (.alt 25 (.one 16 (.one 26 (.one 27 (.one 28 .done)))) (.none))) (.alt 16 (.one 12 (.one 25 (.one 26 (.one 27 (.one 28 .done))))) (.none))) (.alt 12 (.alt 3 (.alt 16 (.one 25 (.one 26 (.one 27 (.one 28 .done)))) (.alt 25 (.one 16 (.one 26 (.one 27 (.one 28 .done)))) (.none))) (.alt 16 (.alt 3 (.one 25 (.one 26 (.one 27 (.one 28 .done)))) (.alt 25 (.one 3 (.one 26 (.one 27 (.one 28 .done)))) (.none))) (.alt 25 (.alt 3 (.one 16 (.one 26 (.one 27 (.one 28 .done)))) (.alt 16 (.one 3 (.one 26 (.one 27 (.one 28 .done)))) (.none))) (.none)))) (.alt 16 (.alt 3 (.one 12 (.one 25 (.one 26 (.one 27 (.one 28 .done))))) (.alt 12 (.alt 3 (.one 25 (.one 26 (.one 27 (.one 28 .done)))) (.alt 25 (.one 3 (.one 26 (.one 27 (.one 28 .done)))) (.none))) (.none))) (.none)))) (.alt 12 (.alt 3 (.alt 8 (.alt 16 (.one 25 (.one 26 (.one 27 (.one 28 .done)))) (.alt 25 (.one 16 (.one 26 (.one 27 (.one 28 .done)))) (.none))) (.alt 16 (.alt 8 (.one 25 (.one 26 (.one 27 (.one 28 .done)))) (.alt 25 (.one 8 (.one 26 (.one 27 (.one 28 .done)))) (.none))) (.alt 25 (.alt 8 (.one 16 (.one 26 (.one 27 (.one 28 .done)))) (.alt 16 (.one 8 (.one 26 (.one 27 (.one 28 .done)))) (.none))) (.none)))) (.alt 8 (.alt 3 (.alt 16 (.one 25 (.one 26 (.one 27 (.one 28 .done)))) (.alt 25 (.one 16 (.one 26 (.one 27 (.one 28 .done)))) (.none))) (.alt 16 (.alt 3 (.one 25 (.one 26 (.one 27 (.one 28 .done)))) (.alt 25 (.one 3 (.one 26 (.one 27 (.one 28 .done)))) (.none))) (.alt 25 (.alt 3 (.one 16 (.one 26 (.one 27 (.one 28 .done)))) (.alt 16 (.one 3 (.one 26 (.one 27 (.one 28 .done)))) (.none))) (.none)))) (.alt 16 (.alt 3 (.alt 8 (.one 25 (.one 26 (.one 27 (.one 28 .done)))) (.alt 25 (.one 8 (.one 26 (.one 27 (.one 28 .done)))) (.none))) (.alt 8 (.alt 3 (.one 25 (.one 26 (.one 27 (.one 28 .done)))) (.alt 25 (.one 3 (.one 26 (.one 27 (.one 28 .done)))) (.none))) (.alt 25 (.alt 3 (.one 8 (.one 26 (.one 27 (.one 28 .done)))) (.alt 8 (.one 3 (.one 26 (.one 27 (.one 28 .done)))) (.none))) (.none)))) (.alt 25 (.alt 3 (.alt 8 (.one 16 (.one 26 (.one 27 (.one 28 .done)))) (.alt 16 (.one 8 (.one 26 (.one 27 (.one 28 .done)))) (.none))) (.alt 8 (.alt 3 (.one 16 (.one 26 (.one 27 (.one 28 .done)))) (.alt 16 (.one 3 (.one 26 (.one 27 (.one 28 .done)))) (.none))) (.alt 16 (.alt 3 (.one 8 (.one 26 (.one 27 (.one 28 .done)))) (.alt 8 (.one 3 (.one 26 (.one 27 (.one 28 .done)))) (.none))) (.none)))) (.none))))) (.alt 16 (.alt 3 (.alt 8 (.one 12 (.one 25 (.one 26 (.one 27 (.one 28 .done))))) (.alt 12 (.alt 8 (.one 25 (.one 26 (.one 27 (.one 28 .done)))) (.alt 25 (.one 8 (.one 26 (.one 27 (.one 28 .done)))) (.none))) (.none))) (.alt 8 (.alt 3 (.one 12 (.one 25 (.one 26 (.one 27 (.one 28 .done))))) (.alt 12 (.alt 3 (.one 25 (.one 26 (.one 27 (.one 28 .done)))) (.alt 25 (.one 3 (.one 26 (.one 27 (.one 28 .done)))) (.none))) (.none))) (.alt 12 (.alt 3 (.alt 8 (.one 25 (.one 26 (.one 27 (.one 28 .done)))) (.alt 25 (.one 8 (.one 26 (.one 27 (.one 28 .done)))) (.none))) (.alt 8 (.alt 3 (.one 25 (.one 26 (.one 27 (.one 28 .done)))) (.alt 25 (.one 3 (.one 26 (.one 27 (.one 28 .done)))) (.none))) (.alt 25 (.alt 3 (.one 8 (.one 26 (.one 27 (.one 28 .done)))) (.alt 8 (.one 3 (.one 26 (.one 27 (.one 28 .done)))) (.none))) (.none)))) (.none)))) (.none))))))))))))))))))))))))),clOf [.pure, .pure, .pure, .ext, .pure, .pure, .pure, .pure, .ext, .pure, .pure, .pure, .ext, .pure, .pure, .pure, .ext, .pure, .pure, .pure, .read, .pure, .pure, .pure, .pure, .loud, .pure, .loud, .pure]) else(.done,clOf [])
def logK(g:LogN) : List AV:= [it g.n,it g.i,entsA g.ents,it g.commit,it g.leads,it g.o0.1,it g.o0.2,it g.o1.1,it g.o1.2,it g.o2.1,it g.o2.2,it g.o3.1,it g.o3.2,it g.o4.1,it g.o4.2]
theorem lterm_r(g:LogN)(j:Nat)(hl:g.ents.length≤100000)(hj:j≤g.ents.length) : CallP Try.prog 54 [.ad (logK g) 0,it (j:Nat)] (it (trmI g.ents (j:Nat))):=by
 unfold trmI
 refine CallA.of pg ordZ Try.func54 rfl Try.ntmps54 Try.results54 rfl fun h0 G0 O0=>?_
 cases j with
 | zero =>
  repeat'(first|apply Sp.h|refine Lk.r rfl ?_|refine Rf.mk rfl ?_|refine xA ?_|refine xN ?_|fail)
  exact Fin.p rfl rfl
 | succ k =>
  have e1:((k+1:Nat):Int) - 1=(k:Nat):=by omega
  obtain⟨e,he⟩:=get_of (l:=g.ents) (i:=k) (by omega)
  have ht:trmE g.ents (((k+1:Nat):Int) - 1).toNat=e.term:=by rw [e1,Int.toNat_natCast,trmE,he];rfl
  rw [if_neg (by omega),ht]
  repeat'(first|apply Sp.h|refine Lk.r rfl ?_|refine Rf.mk rfl ?_|refine xB ?_|(apply Ix.r;(focus assumption);(focus omega))|refine xN ?_|refine xO ?_|fail)
  all_goals first
   | exact Fin.p rfl rfl
   | exact(by omega:False).elim
def PrgL(g:LogN) : Prop:=∀r:Int,0≤r→r < 5→∃k:Nat,(getO g r).1=(k:Int)+1∧k≤g.ents.length
theorem send_a(p:Nat)(v:Value)(g:LogN)(to:Int)(hl:g.ents.length≤100000)(hv:VotL g.ents)(hn:g.n≤5)(hp:g.leads≠0→PrgL g) : CallA Try.prog 56 [pm p,it to] (logR p v g) fun r own=>r= .tup [msgA (sendF g to).1,it (sendF g to).2]∧own=logR p v g:=by
 have ho:=lother_a p v g to
 unfold sendF
 by_cases h1:g.leads=0
 ·rw [if_pos h1]
  refine CallA.of pg ord56 Try.func56 rfl Try.ntmps56 Try.results56 rfl fun h0 G0 O0=>?_
  repeat'(first|apply Sp.h|refine Lk.r rfl ?_|refine Rf.mk rfl ?_|refine xA ?_|apply All.mk|refine xT ?_|(apply SetAsk.r;focus repeat' constructor)|(apply Fk.r;focus repeat' first|infer_instance|constructor)|refine xN ?_|intro _)
  all_goals exact⟨_,_, .tup (.same (.same (.z))),rfl,rfl⟩
 rw [if_neg h1]
 cases hb:othF g.n g.i to
 ·rw [hb] at ho
  rw [if_pos rfl]
  refine CallA.of pg ord56 Try.func56 rfl Try.ntmps56 Try.results56 rfl fun h0 G0 O0=>?_
  repeat'(first|apply Sp.h|refine Lk.r rfl ?_|refine Rf.mk rfl ?_|refine xB ?_|refine All.mk fun _=>?_|refine xT ?_|(apply SetAsk.r;focus repeat' constructor)|(apply Fk.r;focus repeat' first|infer_instance|constructor)|refine xN ?_|(((apply Cl.use (ho);(focus repeat' constructor);(focus repeat' constructor);focus rfl));(rintro _ _ ⟨rfl,rfl⟩)))
  all_goals exact⟨_,_, .tup (.same (.same (.z))),rfl,rfl⟩
 rw [if_neg (fun h=>by cases h)]
 rw [hb] at ho
 have hto:0≤to∧to < 5:=by have:=of_decide_eq_true hb;omega
 obtain⟨k,hk1,hk2⟩:=hp h1 to hto.1 hto.2
 have hz:(getO g to).1 - 1=(k:Int):=by omega
 obtain⟨q,hq⟩:∃q:Nat,q=min (k+16) g.ents.length:=⟨_,rfl⟩
 have hkq:k≤q∧q≤g.ents.length:=by omega
 have hM:sendM g to=⟨7,g.i,to,jk0,g.leads,(k:Int),trmI g.ents (k:Int),g.commit,false,some ((g.ents.drop k).take (q - k))⟩:=by
  unfold sendM
  rw [hz,show(min ((k:Int)+16) (g.ents.length:Nat)).toNat - (k:Int).toNat=q - k by omega,Int.toNat_natCast]
 rw [hM]
 have ht:=lterm_r g k hl hk2
 have hc:=rclone_z v g.ents k (q - k) (by omega) (by omega) hv
 refine CallA.fxr (K:=fun r own=>∃w,r= .tup [.agg [it 7,it g.i,it to, .val (.slice none 0 0), .val (.slice none 0 0), .val (.slice none 0 0),it 0,it 0,it 0,it 0,it 0, .val (.slice none 0 0),it g.leads,it (k:Int),it (trmI g.ents (k:Int)),it g.commit, .val (.bool false), .ow w],it 0]∧own=arrR w 89 6 ((g.ents.drop k).take (q - k)) entC :: logR p v g) ?_ ?_
 rotate_left
 ·rintro _ _ ⟨w,rfl,rfl⟩
  exact⟨.tup [msgA ⟨7,g.i,to,jk0,g.leads,(k:Int),trmI g.ents (k:Int),g.commit,false,some ((g.ents.drop k).take (q - k))⟩,it 0],logR p v g, .tup (.agg (.le (ALe.refl _) (.le (ALe.refl _) (.le (ALe.refl _) (.le (ALe.refl _) (.le (ALe.refl _) (.le (ALe.refl _) (.le (ALe.refl _) (.le (ALe.refl _) (.le (ALe.refl _) (.le (ALe.refl _) (.le (ALe.refl _) (.le (ALe.refl _) (.le (ALe.refl _) (.le (ALe.refl _) (.le (ALe.refl _) (.le (ALe.refl _) (.le (ALe.refl _) (.s1 .here (by simp;omega) .nil)))))))))))))))))) (.le (ALe.refl _) .nil)) .nil,rfl,rfl⟩
 refine CallA.of pg seO Try.func56 rfl Try.ntmps56 Try.results56 rfl fun h0 G0 O0=>?_
 obtain⟨j,rfl⟩:=Int.eq_ofNat_of_zero_le hto.1
 have hcases:j=0∨j=1∨j=2∨j=3∨j=4:=by omega
 repeat'(first|apply Sp.h|refine Lk.r rfl ?_|refine Rf.mk rfl ?_|refine xB ?_|apply All.mk|refine xT ?_|refine xN ?_|intro _)
 refine xW (ho) ?_
 rintro _ _ ⟨rfl,rfl⟩
 (repeat'(first|(show CA _ _ (Code.region 5 _ _) _ _;apply Stopped.out)|apply Sp.h|refine Lk.r rfl ?_|refine xA ?_|fail));any_goals apply Stopped.mk
 rename_i b4
 refine CA.cut (fun z:Int=>⟨[(0,pm p),(1,it (j:Nat)),(4,pm b4),(6,it z)],blkR b4 76 (msgC (msg0 0 0 0 0 0 0 false)) :: logR p v g⟩) (fun z=>z=(k:Int)) ?_ ?_
 ·rcases hcases with rfl|rfl|rfl|rfl|rfl
  ·have e0:g.o0.1=(k:Int)+1:=hk1
   have e1:g.o0.1 - 1=(k:Nat):=by omega
   repeat'(first|apply Sp.h|refine Lk.r rfl ?_|refine Rf.mk rfl ?_|refine xT ?_|(apply Jx.r;(focus exact rfl);(focus first|omega|(simp;done)|(simp;omega)))|refine xO ?_|fail)
   exact PA.lp _ xE e1
  ·have e0:g.o1.1=(k:Int)+1:=hk1
   have e1:g.o1.1 - 1=(k:Nat):=by omega
   repeat'(first|apply Sp.h|refine Lk.r rfl ?_|refine Rf.mk rfl ?_|refine xT ?_|(apply Jx.r;(focus exact rfl);(focus first|omega|(simp;done)|(simp;omega)))|refine xO ?_|fail)
   exact PA.lp _ xE e1
  ·have e0:g.o2.1=(k:Int)+1:=hk1
   have e1:g.o2.1 - 1=(k:Nat):=by omega
   repeat'(first|apply Sp.h|refine Lk.r rfl ?_|refine Rf.mk rfl ?_|refine xT ?_|(apply Jx.r;(focus exact rfl);(focus first|omega|(simp;done)|(simp;omega)))|refine xO ?_|fail)
   exact PA.lp _ xE e1
  ·have e0:g.o3.1=(k:Int)+1:=hk1
   have e1:g.o3.1 - 1=(k:Nat):=by omega
   repeat'(first|apply Sp.h|refine Lk.r rfl ?_|refine Rf.mk rfl ?_|refine xT ?_|(apply Jx.r;(focus exact rfl);(focus first|omega|(simp;done)|(simp;omega)))|refine xO ?_|fail)
   exact PA.lp _ xE e1
  ·have e0:g.o4.1=(k:Int)+1:=hk1
   have e1:g.o4.1 - 1=(k:Nat):=by omega
   repeat'(first|apply Sp.h|refine Lk.r rfl ?_|refine Rf.mk rfl ?_|refine xT ?_|(apply Jx.r;(focus exact rfl);(focus first|omega|(simp;done)|(simp;omega)))|refine xO ?_|fail)
   exact PA.lp _ xE e1
 rintro z rfl
 (repeat'(first|(show CA _ _ (Code.region 6 _ _) _ _;apply Stopped.out)|apply Sp.h|fail));any_goals apply Stopped.mk
 refine CA.cut (fun z:Int=>⟨[(0,pm p),(1,it (j:Nat)),(4,pm b4),(6,it (k:Nat)),(7,it z)],blkR b4 76 (msgC (msg0 0 0 0 0 0 0 false)) :: logR p v g⟩) (fun z=>z=(q:Int)) ?_ ?_
 ·repeat'(first|apply Sp.h|refine Lk.r rfl ?_|refine Rf.mk rfl ?_|refine xU ?_|refine xT ?_|refine xO ?_|fail)
  exact PA.lp _ xE (by omega)
 rintro z rfl
 clear ho hp hcases hM hz hk1
 repeat'(first|apply Sp.h|refine Lk.r rfl ?_|refine Rf.mk rfl ?_|refine OpK.r rfl ?_|refine xP ?_|refine xU ?_|refine xT ?_|(apply Jx.r;(focus exact rfl);(focus first|omega|(simp;done)|(simp;omega)))|refine xD ?_|exact trivial|apply RA'.both|(apply Cl.lend (ht);(focus((repeat'(first|exact Lend.nil|apply Lend.keep|(apply Lend.lend;(focus repeat constructor);(focus first|omega|(simp;omega)))|(apply Lend.cell;(focus repeat constructor))|fail));done))))
 all_goals
  refine xW (hc) ?_
  rintro _ _ ⟨w,rfl,rfl⟩
  repeat'(first|apply Sp.h|refine Lk.r rfl ?_|refine Rf.mk rfl ?_|refine OpK.r rfl ?_|refine xT ?_|(apply SetAsk.r;focus repeat' constructor)|(apply Fk.r;focus repeat' first|infer_instance|constructor)|refine xN ?_|exact trivial|apply RA'.both|fail)
  all_goals exact⟨_,_, .tup (.same (.same (.z))),_,rfl,rfl⟩
def setO(g:LogN)(r:Int)(x:Int×Int) : LogN:=if r=0 then { g with o0:=x } else if r=1 then { g with o1:=x } else if r=2 then { g with o2:=x } else if r=3 then { g with o3:=x } else { g with o4:=x }
def apdB(g:LogN)(m:MsgS) : Bool:=decide (m.kind=8∧m.to=g.i) && othF g.n g.i m.frm && decide (g.leads≠0∧m.term=g.leads)
def apdF(g:LogN)(m:MsgS) : LogN :=
 if apdB g m=false then g
 else if m.granted=true∧m.index≤(g.ents.length:Nat) then setO g m.frm (max (getO g m.frm).2 m.index+1,max (getO g m.frm).2 m.index)
 else if m.granted=false∧m.index < (getO g m.frm).1 then setO g m.frm (max (m.index+1) ((getO g m.frm).2+1),(getO g m.frm).2)
 else g
def PrgS(g:LogN) : Prop:=∀r:Int,(0≤(getO g r).2∧(getO g r).2≤100000)∧ -1≤(getO g r).1∧(getO g r).1≤200000
theorem appended_a(p:Nat)(v:Value)(g:LogN)(m:MsgS)(hl:g.ents.length≤100000)(hn:g.n≤5)(hp:PrgS g)(hi: -9223372036854775808≤m.index) : CallA Try.prog 102 [pm p,msgA m] (logR p v g) fun r own=>r= .tup []∧own=logR p v (apdF g m):=by
 have ho:=lother_a p v g m.frm
 unfold apdF apdB
 by_cases h1:m.kind=8
 rotate_left
 ·rw [zF (fun h=>h1 h.1),Bool.false_and,Bool.false_and,if_pos rfl]
  refine CallA.of pg ord102 Try.func102 rfl Try.ntmps102 Try.results102 rfl fun h0 G0 O0=>?_
  repeat'(first|apply Sp.h|refine Lk.r rfl ?_|refine Rf.mk rfl ?_|refine xB ?_|refine OpK.r rfl ?_|apply All.mk|refine xT ?_|refine xN ?_|refine xD ?_|intro _)
  all_goals exact⟨_,_, .tup (.z),rfl,rfl⟩
 by_cases h2:m.to=g.i
 rotate_left
 ·rw [zF (fun h=>h2 h.2),Bool.false_and,Bool.false_and,if_pos rfl]
  refine CallA.of pg ord102 Try.func102 rfl Try.ntmps102 Try.results102 rfl fun h0 G0 O0=>?_
  repeat'(first|apply Sp.h|refine Lk.r rfl ?_|refine Rf.mk rfl ?_|refine xA ?_|refine xB ?_|refine OpK.r rfl ?_|apply All.mk|refine xT ?_|refine xN ?_|refine xD ?_|intro _)
  all_goals exact⟨_,_, .tup (.z),rfl,rfl⟩
 rw [zT ⟨h1,h2⟩,Bool.true_and]
 cases hb:othF g.n g.i m.frm
 ·rw [hb] at ho
  rw [Bool.false_and,if_pos rfl]
  refine CallA.of pg ord102 Try.func102 rfl Try.ntmps102 Try.results102 rfl fun h0 G0 O0=>?_
  repeat'(first|apply Sp.h|refine Lk.r rfl ?_|refine Rf.mk rfl ?_|refine xA ?_|refine xB ?_|refine OpK.r rfl ?_|refine All.mk fun _=>?_|refine xT ?_|refine xN ?_|refine xD ?_|(((apply Cl.use (ho);(focus repeat' constructor);(focus repeat' constructor);focus rfl));(rintro _ _ ⟨rfl,rfl⟩)))
  all_goals exact⟨_,_, .tup (.z),rfl,rfl⟩
 rw [hb] at ho
 rw [Bool.true_and]
 by_cases h3:g.leads=0
 ·rw [zF (fun h=>h.1 h3),if_pos rfl]
  refine CallA.of pg ord102 Try.func102 rfl Try.ntmps102 Try.results102 rfl fun h0 G0 O0=>?_
  repeat'(first|apply Sp.h|refine Lk.r rfl ?_|refine Rf.mk rfl ?_|refine xA ?_|refine OpK.r rfl ?_|refine All.mk fun _=>?_|refine xT ?_|refine xN ?_|refine xD ?_|(((apply Cl.use (ho);(focus repeat' constructor);(focus repeat' constructor);focus rfl));(rintro _ _ ⟨rfl,rfl⟩)))
  all_goals exact⟨_,_, .tup (.z),rfl,rfl⟩
 by_cases h4:m.term=g.leads
 rotate_left
 ·rw [zF (fun h=>h4 h.2),if_pos rfl]
  refine CallA.of pg ord102 Try.func102 rfl Try.ntmps102 Try.results102 rfl fun h0 G0 O0=>?_
  repeat'(first|apply Sp.h|refine Lk.r rfl ?_|refine Rf.mk rfl ?_|refine xA ?_|refine xB ?_|refine OpK.r rfl ?_|refine All.mk fun _=>?_|refine xT ?_|refine xN ?_|refine xD ?_|(((apply Cl.use (ho);(focus repeat' constructor);(focus repeat' constructor);focus rfl));(rintro _ _ ⟨rfl,rfl⟩)))
  all_goals exact⟨_,_, .tup (.z),rfl,rfl⟩
 rw [zT ⟨h3,h4⟩,if_neg (fun h=>by cases h)]
 have hfr:0≤m.frm∧m.frm < 5:=by have:=of_decide_eq_true hb;omega
 obtain⟨j,hj⟩:=Int.eq_ofNat_of_zero_le hfr.1
 obtain⟨⟨b1,b2⟩,b3,b4⟩:=hp m.frm
 rw [hj] at ho b1 b2 b3 b4 ⊢
 unfold msgA msgC
 rw [hj]
 have hcs:j=0∨j=1∨j=2∨j=3∨j=4:=by omega
 cases hg:m.granted
 ·rw [if_neg (fun h=>by cases h.1)]
  by_cases h5:m.index < (getO g (j:Nat)).1
  ·rw [if_pos ⟨rfl,h5⟩]
   rcases hcs with rfl|rfl|rfl|rfl|rfl
   all_goals
    unfold getO at b1 b2 b3 b4 h5
    simp at b1 b2 b3 b4 h5
    refine CallA.of pg ord102 Try.func102 rfl Try.ntmps102 Try.results102 rfl fun h0 G0 O0=>?_
    repeat'(first|apply Sp.h|refine Lk.r rfl ?_|refine Rf.mk rfl ?_|refine xA ?_|refine xB ?_|refine OpK.r rfl ?_|refine All.mk fun _=>?_|refine xT ?_|refine xV ?_|refine xN ?_|(apply Jx.r;(focus exact rfl);(focus first|omega|(simp;done)|(simp;omega)))|refine xD ?_|refine xO ?_|(((apply Cl.use (ho);(focus repeat' constructor);(focus repeat' constructor);focus rfl));(rintro _ _ ⟨rfl,rfl⟩)))
    all_goals exact⟨_,_, .tup (.z),rfl,rfl⟩
  ·rw [if_neg (fun h=>h5 h.2)]
   rcases hcs with rfl|rfl|rfl|rfl|rfl
   all_goals
    unfold getO at b1 b2 b3 b4 h5
    simp at b1 b2 b3 b4 h5
    refine CallA.of pg ord102 Try.func102 rfl Try.ntmps102 Try.results102 rfl fun h0 G0 O0=>?_
    repeat'(first|apply Sp.h|refine Lk.r rfl ?_|refine Rf.mk rfl ?_|refine xA ?_|refine xB ?_|refine OpK.r rfl ?_|refine All.mk fun _=>?_|refine xT ?_|refine xN ?_|(apply Jx.r;(focus exact rfl);(focus first|omega|(simp;done)|(simp;omega)))|refine xD ?_|(((apply Cl.use (ho);(focus repeat' constructor);(focus repeat' constructor);focus rfl));(rintro _ _ ⟨rfl,rfl⟩)))
    all_goals exact⟨_,_, .tup (.z),rfl,rfl⟩
 ·by_cases h5:m.index≤(g.ents.length:Nat)
  ·rw [if_pos ⟨rfl,h5⟩]
   rcases hcs with rfl|rfl|rfl|rfl|rfl
   all_goals
    unfold getO at b1 b2 b3 b4
    simp at b1 b2 b3 b4
    refine CallA.of pg ord102 Try.func102 rfl Try.ntmps102 Try.results102 rfl fun h0 G0 O0=>?_
    repeat'(first|apply Sp.h|refine Lk.r rfl ?_|refine Rf.mk rfl ?_|refine xA ?_|refine xB ?_|refine OpK.r rfl ?_|refine All.mk fun _=>?_|refine xU ?_|refine xT ?_|refine xV ?_|refine xN ?_|(apply Jx.r;(focus exact rfl);(focus first|omega|(simp;done)|(simp;omega)))|refine xD ?_|refine xO ?_|(((apply Cl.use (ho);(focus repeat' constructor);(focus repeat' constructor);focus rfl));(rintro _ _ ⟨rfl,rfl⟩)))
    all_goals exact⟨_,_, .tup (.z),rfl,rfl⟩
  ·rw [if_neg (fun h=>h5 h.2),if_neg (fun h=>by cases h.1)]
   rcases hcs with rfl|rfl|rfl|rfl|rfl
   all_goals
    refine CallA.of pg ord102 Try.func102 rfl Try.ntmps102 Try.results102 rfl fun h0 G0 O0=>?_
    repeat'(first|apply Sp.h|refine Lk.r rfl ?_|refine Rf.mk rfl ?_|refine xA ?_|refine xB ?_|refine OpK.r rfl ?_|refine All.mk fun _=>?_|refine xU ?_|refine xT ?_|refine xN ?_|(apply Jx.r;(focus exact rfl);(focus first|omega|(simp;done)|(simp;omega)))|refine xD ?_|(((apply Cl.use (ho);(focus repeat' constructor);(focus repeat' constructor);focus rfl));(rintro _ _ ⟨rfl,rfl⟩)))
    all_goals exact⟨_,_, .tup (.z),rfl,rfl⟩
def havL(g:LogN)(x:Int)(k:Nat) : List Int:=((List.range k).map fun r:Nat=>(r:Int)).filter fun r=>decide (r=g.i∨x≤(getO g r).2)
theorem hav_succ(g:LogN)(x:Int)(k:Nat) : havL g x (k+1)=if(k:Int)=g.i∨x≤(getO g k).2 then havL g x k ++ [(k:Int)] else havL g x k:=by
 unfold havL
 rw [List.range_succ,List.map_append,List.filter_append]
 by_cases h:(k:Int)=g.i∨x≤(getO g k).2 <;> simp [h]
theorem hav_len(g:LogN)(x:Int)(k:Nat) : (havL g x k).length≤k:=by
 unfold havL
 have:=List.length_filter_le (fun r=>decide (r=g.i∨x≤(getO g r).2)) ((List.range k).map fun r:Nat=>(r:Int))
 simpa using this
def advN(g:LogN)(vs:List Int) : Nat→LogN×Bool
 | 0=>(g,false)
 | x+1=>if g.commit < (x+1:Nat)∧trmI g.ents (x+1:Nat)=g.leads then(if majF vs (havL g (x+1:Nat) g.n.toNat) then({ g with commit:=(x+1:Nat) },true) else advN g vs x) else(g,false)
def advF(g:LogN)(vs:List Int) : LogN×Bool:=if g.leads=0 then(g,false) else advN g vs g.ents.length
theorem advance_a(p:Nat)(v:Value)(g:LogN)(vs:List Int)(hl:g.ents.length≤100000)(hn:0≤g.n∧g.n≤5)(hc:0≤g.commit)(hvs:vs.length≤1000000) : CallA Try.prog 82 [pm p,ints vs] (logR p v g) fun r own=>r=bl (advF g vs).2∧own=logR p v (advF g vs).1:=by
 unfold advF
 by_cases h1:g.leads=0
 ·rw [if_pos h1]
  refine CallA.of pg ord82 Try.func82 rfl Try.ntmps82 Try.results82 rfl fun h0 G0 O0=>?_
  repeat'(first|apply Sp.h|refine Lk.r rfl ?_|refine Rf.mk rfl ?_|refine xA ?_|refine xT ?_|refine xN ?_|fail)
  all_goals exact⟨_,_, .one (.same (.z)),rfl,rfl⟩
 rw [if_neg h1]
 obtain⟨n,hn2⟩:=Int.eq_ofNat_of_zero_le hn.1
 obtain⟨A,hA⟩:∃A,A=advN g vs g.ents.length:=⟨_,rfl⟩
 rw [←hA]
 refine CallA.of pg ord82 Try.func82 rfl Try.ntmps82 Try.results82 rfl fun h0 G0 O0=>?_
 repeat'(first|apply Sp.h|refine Lk.r rfl ?_|refine Rf.mk rfl ?_|refine xB ?_|refine xU ?_|refine xT ?_|fail)
 refine CA.loop (fun z:Nat=>⟨[(0,pm p),(1,ints vs),(5,it z)],logR p v g⟩) (fun z=>z≤g.ents.length∧advN g vs z=A) (fun z=>z) g.ents.length xE ⟨Nat.le_refl _,hA.symm⟩ ?_
 rintro z ⟨hz,hzA⟩
 cases z with
 | zero =>
  have hA0:A=(g,false):=hzA.symm
  rw [hA0]
  repeat'(first|apply Sp.h|refine Lk.r rfl ?_|refine Rf.mk rfl ?_|refine xB ?_|refine OpK.r rfl ?_|refine xT ?_|refine xN ?_|refine xD ?_|fail)
  all_goals first
   | exact⟨_,_, .one (.same (.z)),rfl,rfl⟩
   | exact(by omega:False).elim
 | succ x =>
  have ht:=lterm_r g (x+1) hl hz
  by_cases h2:g.commit < (x+1:Nat)
  rotate_left
  ·have hA0:A=(g,false):=by rw [←hzA,advN,if_neg (fun h=>h2 h.1)]
   rw [hA0]
   repeat'(first|apply Sp.h|refine Lk.r rfl ?_|refine Rf.mk rfl ?_|refine xB ?_|refine OpK.r rfl ?_|refine xT ?_|refine xN ?_|refine xD ?_|fail)
   all_goals first
    | exact⟨_,_, .one (.same (.z)),rfl,rfl⟩
    | exact(by omega:False).elim
  by_cases h3:trmI g.ents (x+1:Nat)=g.leads
  rotate_left
  ·have hA0:A=(g,false):=by rw [←hzA,advN,if_neg (fun h=>h3 h.2)]
   rw [hA0]
   generalize trmI g.ents (x+1:Nat)=y at ht h3
   repeat'(first|apply Sp.h|refine Lk.r rfl ?_|refine Rf.mk rfl ?_|refine xA ?_|refine xB ?_|refine OpK.r rfl ?_|refine xT ?_|refine xN ?_|refine xD ?_|(apply Cl.lend (ht);(focus((repeat'(first|exact Lend.nil|apply Lend.keep|(apply Lend.lend;(focus repeat constructor);(focus first|omega|(simp;omega)))|(apply Lend.cell;(focus repeat constructor))|fail));done))))
   all_goals first
    | exact⟨_,_, .one (.same (.z)),rfl,rfl⟩
    | exact(by omega:False).elim
  have hA1:A=if majF vs (havL g (x+1:Nat) g.n.toNat) then({ g with commit:=(x+1:Nat) },true) else advN g vs x:=by rw [←hzA,advN,if_pos ⟨h2,h3⟩]
  generalize trmI g.ents (x+1:Nat)=y at ht h3
  repeat'(first|apply Sp.h|refine Lk.r rfl ?_|refine Rf.mk rfl ?_|refine xA ?_|refine OpK.r rfl ?_|refine xT ?_|refine xD ?_|(apply Cl.lend (ht);(focus((repeat'(first|exact Lend.nil|apply Lend.keep|(apply Lend.lend;(focus repeat constructor);(focus first|omega|(simp;omega)))|(apply Lend.cell;(focus repeat constructor))|fail));done))))
  have e1:((x+1:Nat):Int) - 1=(x:Nat):=by omega
  obtain⟨H,hH⟩:∃H:Nat→List Int,H=havL g (x+1:Nat):=⟨_,rfl⟩
  have hH0:H 0= []:=by rw [hH];rfl
  have hHs:=fun k=>hav_succ g (x+1:Nat) k
  have hHl:=fun k=>hav_len g (x+1:Nat) k
  rw [←hH] at hHs hHl hA1
  clear hH
  refine CA.nilOwn 6 3 1 intC rfl fun w0=>?_
  refine CA.loop (fun y:Nat×Value=>⟨[(0,pm p),(1,ints vs),(5,it (x+1:Nat)),(6, .ow y.2),(39,it g.n),(40,it (y.1:Nat))],arrR y.2 3 1 (H y.1) intC :: logR p v g⟩) (fun y=>y.1≤n) (fun y=>n - y.1) (0,w0) (by simp only [hH0];exact xE) (zZ _) ?_
  rintro⟨i,w⟩ hi
  simp only at hi
  simp only
  have hvl:=hHl i
  by_cases hin:i < n
  ·have hsu:=hHs i
   by_cases hself:(i:Int)=g.i
   ·rw [if_pos (.inl hself)] at hsu
    repeat'(first|apply Sp.h|refine Lk.r rfl ?_|refine Rf.mk rfl ?_|refine xA ?_|refine xP ?_|apply All.mk|refine xU ?_|refine xT ?_|refine Ce.r ?_|(apply Fk.r;focus repeat' first|infer_instance|constructor)|refine Rf.mk ⟨rfl,rfl⟩ ?_|refine Rf.mk ⟨rfl,rfl,rfl⟩ ?_|(apply Mp.lit;(focus repeat(first|exact MpL.nil|(apply MpL.cons;(focus rfl))|(apply MpL.inv;(focus repeat constructor);(focus infer_instance)))))|refine xO ?_|intro _)
    rw [←hsu]
    all_goals first
     | exact PA.lp (i+1,_) xE ⟨by omega,by simp only;omega⟩
     | exact(by omega:False).elim
   rcases(show i=0∨i=1∨i=2∨i=3∨i=4 by omega) with rfl|rfl|rfl|rfl|rfl
   ·by_cases hm:((x+1:Nat):Int)≤g.o0.2
    ·rw [if_pos (.inr hm)] at hsu
     repeat'(first|apply Sp.h|refine Lk.r rfl ?_|refine Rf.mk rfl ?_|refine xA ?_|refine xB ?_|refine xP ?_|apply All.mk|refine xU ?_|refine xT ?_|refine Ce.r ?_|(apply Fk.r;focus repeat' first|infer_instance|constructor)|refine Rf.mk ⟨rfl,rfl⟩ ?_|refine Rf.mk ⟨rfl,rfl,rfl⟩ ?_|(apply Jx.r;(focus exact rfl);(focus first|omega|(simp;done)|(simp;omega)))|(apply Mp.lit;(focus repeat(first|exact MpL.nil|(apply MpL.cons;(focus rfl))|(apply MpL.inv;(focus repeat constructor);(focus infer_instance)))))|refine xO ?_|intro _)
     rw [←hsu]
     all_goals first
      | exact PA.lp (1,_) xE ⟨by omega,by simp only;omega⟩
      | exact(by omega:False).elim
    ·rw [if_neg (fun h=>h.elim hself hm)] at hsu
     repeat'(first|apply Sp.h|refine Lk.r rfl ?_|refine Rf.mk rfl ?_|refine xA ?_|refine xB ?_|refine xT ?_|(apply Jx.r;(focus exact rfl);(focus first|omega|(simp;done)|(simp;omega)))|refine xO ?_|fail)
     rw [←hsu]
     all_goals first
      | exact PA.lp (1,w) xE ⟨by omega,by simp only;omega⟩
      | exact(by omega:False).elim
   ·by_cases hm:((x+1:Nat):Int)≤g.o1.2
    ·rw [if_pos (.inr hm)] at hsu
     repeat'(first|apply Sp.h|refine Lk.r rfl ?_|refine Rf.mk rfl ?_|refine xA ?_|refine xB ?_|refine xP ?_|apply All.mk|refine xU ?_|refine xT ?_|refine Ce.r ?_|(apply Fk.r;focus repeat' first|infer_instance|constructor)|refine Rf.mk ⟨rfl,rfl⟩ ?_|refine Rf.mk ⟨rfl,rfl,rfl⟩ ?_|(apply Jx.r;(focus exact rfl);(focus first|omega|(simp;done)|(simp;omega)))|(apply Mp.lit;(focus repeat(first|exact MpL.nil|(apply MpL.cons;(focus rfl))|(apply MpL.inv;(focus repeat constructor);(focus infer_instance)))))|refine xO ?_|intro _)
     rw [←hsu]
     all_goals first
      | exact PA.lp (2,_) xE ⟨by omega,by simp only;omega⟩
      | exact(by omega:False).elim
    ·rw [if_neg (fun h=>h.elim hself hm)] at hsu
     repeat'(first|apply Sp.h|refine Lk.r rfl ?_|refine Rf.mk rfl ?_|refine xA ?_|refine xB ?_|refine xT ?_|(apply Jx.r;(focus exact rfl);(focus first|omega|(simp;done)|(simp;omega)))|refine xO ?_|fail)
     rw [←hsu]
     all_goals first
      | exact PA.lp (2,w) xE ⟨by omega,by simp only;omega⟩
      | exact(by omega:False).elim
   ·by_cases hm:((x+1:Nat):Int)≤g.o2.2
    ·rw [if_pos (.inr hm)] at hsu
     repeat'(first|apply Sp.h|refine Lk.r rfl ?_|refine Rf.mk rfl ?_|refine xA ?_|refine xB ?_|refine xP ?_|apply All.mk|refine xU ?_|refine xT ?_|refine Ce.r ?_|(apply Fk.r;focus repeat' first|infer_instance|constructor)|refine Rf.mk ⟨rfl,rfl⟩ ?_|refine Rf.mk ⟨rfl,rfl,rfl⟩ ?_|(apply Jx.r;(focus exact rfl);(focus first|omega|(simp;done)|(simp;omega)))|(apply Mp.lit;(focus repeat(first|exact MpL.nil|(apply MpL.cons;(focus rfl))|(apply MpL.inv;(focus repeat constructor);(focus infer_instance)))))|refine xO ?_|intro _)
     rw [←hsu]
     all_goals first
      | exact PA.lp (3,_) xE ⟨by omega,by simp only;omega⟩
      | exact(by omega:False).elim
    ·rw [if_neg (fun h=>h.elim hself hm)] at hsu
     repeat'(first|apply Sp.h|refine Lk.r rfl ?_|refine Rf.mk rfl ?_|refine xA ?_|refine xB ?_|refine xT ?_|(apply Jx.r;(focus exact rfl);(focus first|omega|(simp;done)|(simp;omega)))|refine xO ?_|fail)
     rw [←hsu]
     all_goals first
      | exact PA.lp (3,w) xE ⟨by omega,by simp only;omega⟩
      | exact(by omega:False).elim
   ·by_cases hm:((x+1:Nat):Int)≤g.o3.2
    ·rw [if_pos (.inr hm)] at hsu
     repeat'(first|apply Sp.h|refine Lk.r rfl ?_|refine Rf.mk rfl ?_|refine xA ?_|refine xB ?_|refine xP ?_|apply All.mk|refine xU ?_|refine xT ?_|refine Ce.r ?_|(apply Fk.r;focus repeat' first|infer_instance|constructor)|refine Rf.mk ⟨rfl,rfl⟩ ?_|refine Rf.mk ⟨rfl,rfl,rfl⟩ ?_|(apply Jx.r;(focus exact rfl);(focus first|omega|(simp;done)|(simp;omega)))|(apply Mp.lit;(focus repeat(first|exact MpL.nil|(apply MpL.cons;(focus rfl))|(apply MpL.inv;(focus repeat constructor);(focus infer_instance)))))|refine xO ?_|intro _)
     rw [←hsu]
     all_goals first
      | exact PA.lp (4,_) xE ⟨by omega,by simp only;omega⟩
      | exact(by omega:False).elim
    ·rw [if_neg (fun h=>h.elim hself hm)] at hsu
     repeat'(first|apply Sp.h|refine Lk.r rfl ?_|refine Rf.mk rfl ?_|refine xA ?_|refine xB ?_|refine xT ?_|(apply Jx.r;(focus exact rfl);(focus first|omega|(simp;done)|(simp;omega)))|refine xO ?_|fail)
     rw [←hsu]
     all_goals first
      | exact PA.lp (4,w) xE ⟨by omega,by simp only;omega⟩
      | exact(by omega:False).elim
   ·by_cases hm:((x+1:Nat):Int)≤g.o4.2
    ·rw [if_pos (.inr hm)] at hsu
     repeat'(first|apply Sp.h|refine Lk.r rfl ?_|refine Rf.mk rfl ?_|refine xA ?_|refine xB ?_|refine xP ?_|apply All.mk|refine xU ?_|refine xT ?_|refine Ce.r ?_|(apply Fk.r;focus repeat' first|infer_instance|constructor)|refine Rf.mk ⟨rfl,rfl⟩ ?_|refine Rf.mk ⟨rfl,rfl,rfl⟩ ?_|(apply Jx.r;(focus exact rfl);(focus first|omega|(simp;done)|(simp;omega)))|(apply Mp.lit;(focus repeat(first|exact MpL.nil|(apply MpL.cons;(focus rfl))|(apply MpL.inv;(focus repeat constructor);(focus infer_instance)))))|refine xO ?_|intro _)
     rw [←hsu]
     all_goals first
      | exact PA.lp (5,_) xE ⟨by omega,by simp only;omega⟩
      | exact(by omega:False).elim
    ·rw [if_neg (fun h=>h.elim hself hm)] at hsu
     repeat'(first|apply Sp.h|refine Lk.r rfl ?_|refine Rf.mk rfl ?_|refine xA ?_|refine xB ?_|refine xT ?_|(apply Jx.r;(focus exact rfl);(focus first|omega|(simp;done)|(simp;omega)))|refine xO ?_|fail)
     rw [←hsu]
     all_goals first
      | exact PA.lp (5,w) xE ⟨by omega,by simp only;omega⟩
      | exact(by omega:False).elim
  ·have hie:i=n:=by omega
   subst hie
   have hmj:=majority_p vs (H i) hvs
   rw [show g.n.toNat=i by omega] at hA1
   cases hb:majF vs (H i)
   ·rw [hb] at hmj hA1
    rw [if_neg Bool.false_ne_true] at hA1
    repeat'(first|apply Sp.h|refine Lk.r rfl ?_|refine Rf.mk rfl ?_|refine xB ?_|fail)
    (apply Cl.lend (hmj);(focus repeat'(first|exact Lend.nil|apply Lend.keep|(apply Lend.lend;(focus repeat constructor);(focus first|omega|(simp;omega)))|fail)))
    repeat'(first|apply Sp.h|refine Lk.r rfl ?_|refine Rf.mk rfl ?_|refine xO ?_|fail)
    all_goals exact PA.lp x (by rw [←e1];exact xE) ⟨⟨by omega,hA1.symm⟩,by omega⟩
   ·rw [hb] at hmj hA1
    rw [if_pos rfl] at hA1
    rw [hA1]
    repeat'(first|apply Sp.h|refine Lk.r rfl ?_|refine Rf.mk rfl ?_|refine xB ?_|fail)
    (apply Cl.lend (hmj);(focus repeat'(first|exact Lend.nil|apply Lend.keep|(apply Lend.lend;(focus repeat constructor);(focus first|omega|(simp;omega)))|fail)))
    repeat'(first|apply Sp.h|refine Lk.r rfl ?_|refine Rf.mk rfl ?_|refine xT ?_|refine xV ?_|refine xN ?_|fail)
    all_goals exact⟨_,_, .one (.same (.z)),rfl,rfl⟩
def inR(n:Int) : Bool:=decide (0≤n∧n≤1024)
def entB(m:MsgS)(e:EntS) : Bool:=decide (m.logt≤e.term∧e.term≤m.term)
def endB(m:MsgS) : Bool:=inR m.commit && inR m.index && decide (0≤m.logt∧m.logt≤m.term∧(m.logt=0↔m.index=0))
def hedB(g:LogN)(m:MsgS) : Bool:=decide (m.kind=7∧m.to=g.i) && othF g.n g.i m.frm && decide (1≤m.term∧m.term≤1048576) && valB g.n m.ents
def fitB(g:LogN)(m:MsgS) : Bool:=hedB g m && m.ents.all (entB m) && endB m
abbrev msgL (m:MsgS) (l:List EntS):List AV:= [it m.kind,it m.frm,it m.to, .val m.jk.a, .val m.jk.b, .val m.jk.c, .val m.jk.d, .val m.jk.e, .val m.jk.f, .val m.jk.g, .val m.jk.h, .val m.jk.i,it m.term,it m.index,it m.logt,it m.commit, .val (.bool m.granted),entsA l]
theorem inr_p(n:Int) : CallP Try.prog 105 [it n] (bl (inR n)):=by
 refine CallA.of pg ordZ Try.func105 rfl Try.ntmps105 Try.results105 rfl fun h0 G0 O0=>?_
 repeat'(first|apply Sp.h|refine Lk.r rfl ?_|refine Rf.mk rfl ?_|refine xA ?_|refine xB ?_|apply Bd.mk|refine xN ?_|intro _)
 all_goals exact Fin.p rfl (vb (by first|exact(zT (by omega)).symm|exact(zF (by omega)).symm|exact zD.2 (by omega)))
theorem formed_a(p:Nat)(v:Value)(g:LogN)(m:MsgS)(l:List EntS)(hes:m.es=some l) : CallA Try.prog 104 [pm p,msgA m] (logR p v g) fun r own=>r=bl (fitB g m)∧own=logR p v g:=by
 have ho:=lother_a p v g m.frm
 have hv:=rvalid_p g.n l
 have hml:m.ents=l:=by rw [MsgS.ents,hes];rfl
 have bad:hedB g m=false→fitB g m=false:=fun h=>by rw [fitB,h];rfl
 have hH:hedB g m=(decide (m.kind=7∧m.to=g.i) && othF g.n g.i m.frm && decide (1≤m.term∧m.term≤1048576) && valB g.n l):=by rw [hedB,hml]
 unfold msgA msgC
 rw [hes,eoA]
 by_cases h1:m.kind=7
 rotate_left
 ·rw [bad (by rw [hH,zF (fun h=>h1 h.1)];rfl)]
  refine CallA.of pg ord104 Try.func104 rfl Try.ntmps104 Try.results104 rfl fun h0 G0 O0=>?_
  repeat'(first|apply Sp.h|refine Lk.r rfl ?_|refine Rf.mk rfl ?_|refine xB ?_|refine OpK.r rfl ?_|apply All.mk|refine xT ?_|refine xN ?_|refine xD ?_|intro _)
  all_goals exact⟨_,_, .one (.same (.z)),rfl,rfl⟩
 by_cases h2:m.to=g.i
 rotate_left
 ·rw [bad (by rw [hH,zF (fun h=>h2 h.2)];rfl)]
  refine CallA.of pg ord104 Try.func104 rfl Try.ntmps104 Try.results104 rfl fun h0 G0 O0=>?_
  repeat'(first|apply Sp.h|refine Lk.r rfl ?_|refine Rf.mk rfl ?_|refine xA ?_|refine xB ?_|refine OpK.r rfl ?_|apply All.mk|refine xT ?_|refine xN ?_|refine xD ?_|intro _)
  all_goals exact⟨_,_, .one (.same (.z)),rfl,rfl⟩
 rw [zT ⟨h1,h2⟩,Bool.true_and] at hH
 cases hb:othF g.n g.i m.frm
 ·rw [hb] at ho hH
  rw [bad (by rw [hH];rfl)]
  refine CallA.of pg ord104 Try.func104 rfl Try.ntmps104 Try.results104 rfl fun h0 G0 O0=>?_
  repeat'(first|apply Sp.h|refine Lk.r rfl ?_|refine Rf.mk rfl ?_|refine xA ?_|refine xB ?_|refine OpK.r rfl ?_|refine All.mk fun _=>?_|refine xT ?_|refine xN ?_|refine xD ?_|(((apply Cl.use (ho);(focus repeat' constructor);(focus repeat' constructor);focus rfl));(rintro _ _ ⟨rfl,rfl⟩)))
  all_goals exact⟨_,_, .one (.same (.z)),rfl,rfl⟩
 rw [hb] at ho hH
 rw [Bool.true_and] at hH
 by_cases h3:m.term < 1
 ·rw [bad (by rw [hH,zF (by omega)];rfl)]
  refine CallA.of pg ord104 Try.func104 rfl Try.ntmps104 Try.results104 rfl fun h0 G0 O0=>?_
  repeat'(first|apply Sp.h|refine Lk.r rfl ?_|refine Rf.mk rfl ?_|refine xA ?_|refine OpK.r rfl ?_|refine All.mk fun _=>?_|refine xT ?_|refine xN ?_|refine xD ?_|(((apply Cl.use (ho);(focus repeat' constructor);(focus repeat' constructor);focus rfl));(rintro _ _ ⟨rfl,rfl⟩)))
  all_goals exact⟨_,_, .one (.same (.z)),rfl,rfl⟩
 by_cases h4:1048576 < m.term
 ·rw [bad (by rw [hH,zF (by omega)];rfl)]
  refine CallA.of pg ord104 Try.func104 rfl Try.ntmps104 Try.results104 rfl fun h0 G0 O0=>?_
  repeat'(first|apply Sp.h|refine Lk.r rfl ?_|refine Rf.mk rfl ?_|refine xA ?_|refine xB ?_|refine OpK.r rfl ?_|refine All.mk fun _=>?_|refine xT ?_|refine xN ?_|refine xD ?_|(((apply Cl.use (ho);(focus repeat' constructor);(focus repeat' constructor);focus rfl));(rintro _ _ ⟨rfl,rfl⟩)))
  all_goals exact⟨_,_, .one (.same (.z)),rfl,rfl⟩
 rw [zT (by omega),Bool.true_and] at hH
 cases hvb:valB g.n l
 ·rw [hvb] at hv hH
  rw [bad hH]
  refine CallA.of pg ord104 Try.func104 rfl Try.ntmps104 Try.results104 rfl fun h0 G0 O0=>?_
  repeat'(first|apply Sp.h|refine Lk.r rfl ?_|refine Rf.mk rfl ?_|refine xA ?_|refine xB ?_|refine OpK.r rfl ?_|refine All.mk fun _=>?_|refine xT ?_|refine xN ?_|refine xD ?_|(((apply Cl.use (ho);(focus repeat' constructor);(focus repeat' constructor);focus rfl));(rintro _ _ ⟨rfl,rfl⟩))|(apply Cl.p (hv);focus(repeat' constructor);done))
  all_goals exact⟨_,_, .one (.same (.z)),rfl,rfl⟩
 rw [hvb] at hv hH
 have hF:fitB g m=(l.all (entB m) && endB m):=by rw [fitB,hH,Bool.true_and,hml]
 rw [hF]
 refine CallA.of pg ord104 Try.func104 rfl Try.ntmps104 Try.results104 rfl fun h0 G0 O0=>?_
 repeat'(first|apply Sp.h|refine Lk.r rfl ?_|refine Rf.mk rfl ?_|refine xA ?_|refine xB ?_|refine OpK.r rfl ?_|refine Im.mk fun _=>?_|refine All.mk fun _=>?_|refine xT ?_|refine xD ?_|(((apply Cl.use (ho);(focus repeat' constructor);(focus repeat' constructor);focus rfl));(rintro _ _ ⟨rfl,rfl⟩))|(apply Cl.p (hv);focus(repeat' constructor);done))
 rename_i b3 _
 refine CA.loop (fun i:Nat=>⟨[(0,pm p),(3,pm b3),(48,entsA l),(49,it (l.length:Nat)),(50,it i)],blkR b3 76 (msgL m l) :: logR p v g⟩) (fun i=>i≤l.length∧∀e∈l.take i,entB m e=true) (fun i=>l.length - i) 0 xE ⟨zZ _,by simp⟩ ?_
 rintro i ⟨hi,hok⟩
 by_cases hin:i < l.length
 ·obtain⟨e,he⟩:=get_of hin
  have hno:entB m e=false→(l.all (entB m) && endB m)=false:=fun h=>by
   have:l.all (entB m)=false:=List.all_eq_false.2 ⟨e,zM he,by rw [h];exact Bool.false_ne_true⟩
   rw [this];rfl
  by_cases c1:e.term < m.logt
  ·rw [hno (zF (by omega))]
   repeat'(first|apply Sp.h|refine Lk.r rfl ?_|refine Rf.mk rfl ?_|refine xA ?_|apply All.mk|refine xT ?_|refine xI ?_|refine Ch.l ⟨rfl,rfl⟩ ?_|(apply SetAsk.r;focus repeat' constructor)|refine xN ?_|intro _)
   all_goals first
    | exact⟨_,_, .one (.same (.z)),rfl,rfl⟩
    | exact(by omega:False).elim
  by_cases c2:m.term < e.term
  ·rw [hno (zF (by omega))]
   repeat'(first|apply Sp.h|refine Lk.r rfl ?_|refine Rf.mk rfl ?_|refine xA ?_|refine xB ?_|apply All.mk|refine xT ?_|refine xI ?_|refine Ch.l ⟨rfl,rfl⟩ ?_|(apply SetAsk.r;focus repeat' constructor)|refine xN ?_|intro _)
   all_goals first
    | exact⟨_,_, .one (.same (.z)),rfl,rfl⟩
    | exact(by omega:False).elim
  ·repeat'(first|apply Sp.h|refine Lk.r rfl ?_|refine Rf.mk rfl ?_|refine xA ?_|refine xB ?_|apply All.mk|refine xT ?_|refine xI ?_|refine Ch.l ⟨rfl,rfl⟩ ?_|(apply SetAsk.r;focus repeat' constructor)|refine xN ?_|refine xO ?_|intro _)
   all_goals first
    | exact(by omega:False).elim
    | exact PA.lp (i+1) xE ⟨⟨hin,all_succ he hok (zT ⟨by omega,by omega⟩)⟩,by omega⟩
 have hie:i=l.length:=by omega
 subst hie
 rw [zL] at hok
 rw [show l.all (entB m)=true from List.all_eq_true.2 hok,Bool.true_and]
 have k1:=inr_p m.commit
 have k2:=inr_p m.index
 unfold endB
 generalize inR m.commit=z1 at k1 ⊢
 generalize inR m.index=z2 at k2 ⊢
 cases z1
 ·repeat'(first|apply Sp.h|refine Lk.r rfl ?_|refine Rf.mk rfl ?_|refine xB ?_|refine xT ?_|refine xN ?_|(apply Cl.p (k1);focus(repeat' constructor);done)|(apply Cl.p (k2);focus(repeat' constructor);done))
  all_goals exact⟨_,_, .one (.same (.z)),rfl,rfl⟩
 cases z2
 ·repeat'(first|apply Sp.h|refine Lk.r rfl ?_|refine Rf.mk rfl ?_|refine xB ?_|refine xT ?_|refine xN ?_|(apply Cl.p (k1);focus(repeat' constructor);done)|(apply Cl.p (k2);focus(repeat' constructor);done))
  all_goals exact⟨_,_, .one (.same (.z)),rfl,rfl⟩
 rw [Bool.true_and,Bool.true_and]
 by_cases d1:0≤m.logt
 rotate_left
 ·rw [zF (fun h=>d1 h.1)]
  repeat'(first|apply Sp.h|refine Lk.r rfl ?_|refine Rf.mk rfl ?_|refine xB ?_|refine xT ?_|refine xN ?_|(apply Cl.p (k1);focus(repeat' constructor);done)|(apply Cl.p (k2);focus(repeat' constructor);done))
  all_goals exact⟨_,_, .one (.same (.z)),vb (by first|rfl|exact zF (by omega)),rfl⟩
 by_cases d2:m.logt≤m.term
 rotate_left
 ·rw [zF (fun h=>d2 h.2.1)]
  repeat'(first|apply Sp.h|refine Lk.r rfl ?_|refine Rf.mk rfl ?_|refine xA ?_|refine xB ?_|refine xT ?_|refine xN ?_|(apply Cl.p (k1);focus(repeat' constructor);done)|(apply Cl.p (k2);focus(repeat' constructor);done))
  all_goals exact⟨_,_, .one (.same (.z)),vb (by first|rfl|exact zF (by omega)),rfl⟩
 ·rw [show decide (0≤m.logt∧m.logt≤m.term∧(m.logt=0↔m.index=0))=decide (m.logt=0↔m.index=0) from zD.2 ⟨fun h=>h.2.2,fun h=>⟨d1,d2,h⟩⟩]
  by_cases d3:m.logt=0 <;> by_cases d4:m.index=0
  all_goals
   repeat'(first|apply Sp.h|refine Lk.r rfl ?_|refine Rf.mk rfl ?_|refine xA ?_|refine xB ?_|refine xT ?_|refine xN ?_|(apply Cl.p (k1);focus(repeat' constructor);done)|(apply Cl.p (k2);focus(repeat' constructor);done))
   all_goals exact⟨_,_, .one (.same (.z)),vb (by simp [d3,d4]),rfl⟩
end Go.Proofs.Ythlpimbhonihhaa
namespace Go.CF
open Go
section
variable {Γ:Cx} {k:List KI} {e:EA} {o:List Res} {N:NA} {c:Cls} {d:Tmp} {ty:TypeId} {x y:Operand} {t u:TypeId}
instance {a b d:Tmp} {ty:TypeId} {k:AV→Prop} : Sp (ResX Γ e o [.cell a ty, .tmp b, .tmp d] k) (Lk (lookA e a) fun x=>Lk (lookA e b) fun y=>Lk (lookA e d) fun z=>CelX Γ e o x ty fun q=>k (.tup [q,y,z])):=⟨fun⟨x,h1,y,hy,z,hz,cs,h2,h3⟩=>⟨.tup [.agg cs,y,z],h2,fun hr env h G Os cn=>by
 obtain⟨v,g1,g2⟩:=cn.env a x h1
 obtain⟨v2,g5,g6⟩:=cn.env b y hy
 obtain⟨v3,g7,g8⟩:=cn.env d z hz
 obtain⟨p,vs,ti,fs,rfl,t1,t2,t3,g3,g4⟩:=h3 env h G Os v cn g2
 have hrs:Γ.rs=#[.cell a ty, .tmp b, .tmp d]:=Array.ext' hr
 refine⟨.tuple #[.agg vs.toArray,v2,v3], ?_,[_,_,_],rfl,⟨vs,rfl,g4⟩,g6,g8,trivial⟩
 rw [hrs]
 exact ResOK.cell2 Γ.ok t1 t2 g1 g3 t3 g5 g7⟩⟩
structure Slz0 (Γ:Cx) (c:Cls) (d:Tmp) (t:TypeId) (x hi mx:Operand) (ty:TypeId) (e:EA) (o:List Res) (N:NA) (a:AV):Prop where
 h:evA e x=some a→SA Γ c (some d) (.slice t x none (some hi) (some mx)) ty e o N
instance {hi mx:Operand} : Sp (SA Γ c (some d) (.slice t x none (some hi) (some mx)) ty e o N) (Lk (evA e x) fun a=>Slz0 Γ c d t x hi mx ty e o N a):=⟨fun⟨_,ha,h⟩=>h.h ha⟩
instance {hi mx:Operand} {v:Value} : Sp (Slz0 Γ c d t x hi mx ty e o N (.ow v)) (Lk (slE Γ.tt t) fun p=>TkA o v fun _ sz l _ _=>Rf (p.2.size=sz) (Bds e none (some hi) l.length fun _ b=>Bds e none (some mx) l.length fun _ b'=>Om (b'=b) (N ((d, .oz v sz 0 b) :: e) o))):=⟨fun⟨p,hp,α,T,sz,l,f,rest,tk,hz,_,b,_,h2,⟨_,b',_,_,⟨hb,hn⟩,_,kk3,i3,h7,h8⟩,_,kk2,i2,h5,h6⟩=>⟨fun ha=>⟨fun env hh G Os cn=>by
 subst hb
 obtain⟨w,g1,rfl,q,len,cap,rfl⟩:=cn.get ha
 obtain⟨O,Os',cn2⟩:=cn.take tk
 obtain⟨⟨_,rows,hw,_⟩,_⟩:=cn2.hp.own
 have hlc:len=l.length∧l.length≤cap:=by
  rcases hw.ok with⟨e1,e2⟩|⟨b',of,cap',L,e1,_,_,e2,_⟩
  ·cases e1;omega
  ·cases e1;exact⟨rfl,e2⟩
 obtain⟨rfl,hlc⟩:=hlc
 obtain⟨ti,t1,t2,t3⟩:=slE_spec hp
 obtain⟨u2,q3,q4⟩:=cn.get h5
 have q4:u2=_:=q4
 subst q4
 obtain⟨u3,q5,q6⟩:=cn.get h7
 have q6:u3=_:=q6
 subst q6
 refine St.sliceHM Γ.ok t1 t2 t3 g1 q3 q5 h6 h8 (Nat.le_refl _) (by omega) (CN.mk (cn.put d (a:= .oz _ sz 0 b') ⟨q,_,cap,rfl,by omega, ?_⟩) hn)
 rw [hz,Nat.zero_add]⟩⟩⟩
instance {β:Type} {v:Value} {m s:Nat} {p:Nat×TI} {g:β→List AV} {M:∀{α:Type},List α→(α→List AV)→List Res→Prop} : Sp (Tgt o (.oz v s 0 m) p g M) (TkA o v fun T s' l f rest=>Rf (T=p.1∧s'=p.2.size) (M (l.take m) f rest)):=⟨fun⟨α,T,s',l,f,rest,tk,⟨h1,h2⟩,h⟩=>⟨α,l.take m,f,rest,h,by
 subst h1;subst h2
 rintro h0 G0 O0 h G Os w c ⟨q,len,cap,rfl,hm,rfl⟩
 obtain⟨O,Os',c2⟩:=c.take tk
 obtain⟨⟨ho,rows,hw,hrr⟩,hrest⟩:=c2.own
 have eq:subA q s 0 (0+m)=q:=by
  unfold subA
  split
  ·rfl
  ·cases q with
   | none=>rfl
   | some a=>simp [Addr.add]
 rw [eq]
 rcases hw.ok with⟨e1,e2⟩|⟨b,of,cap',L,e1,hbk,g1,g2,g3⟩
 ·cases e1
  have hm0:m=0:=by omega
  subst hm0
  refine⟨O,Os',⟨⟨⟨fun x=>(ho x).trans (by simp [blkOf]),[],Own.nil,Rows.nil⟩,hrest⟩,c2.g,c2.g0,c2.o,c2.d,c2.fp⟩⟩
 ·cases e1
  have hml:(l.take m).length=m:=by rw [zN];omega
  have hsz:=hrr.sz
  have e3:(rows.take m).flatten.length=m * p.2.size:=by rw [flat_len _ (fun r hr=>hsz r (zW hr)),zN,hrr.len];congr 1 <;> omega
  refine⟨O,Os',⟨⟨⟨fun x=>(ho x).trans (by simp [blkOf]),rows.take m,⟨by rw [hml];exact e3, .inr ⟨b,of,m,L,by rw [hml],hbk,Nat.le_trans (Nat.add_le_add_left (zU _ (by omega)) _) g1,by rw [hml];exact Nat.le_refl _, ?_⟩⟩,hrr.take m⟩,hrest⟩,c2.g,c2.g0,c2.o,c2.d,c2.fp⟩⟩
  have e2:rows.flatten=(rows.take m).flatten ++ (rows.drop m).flatten:=by rw [←List.flatten_append,List.take_append_drop]
  have hmul:m * p.2.size≤l.length * p.2.size:=zU _ (by omega)
  rw [hml,←Nat.min_eq_left hmul,←List.take_take,g3,e2,←e3,List.take_left]⟩⟩
end
end Go.CF
namespace Go.Proofs.Ythlpimbhonihhaa
open Go Go.CF
def misM(g:LogN)(m:MsgS)(l:List EntS)(k:Nat) : Bool:=decide ((g.ents.length:Int) < m.index+1+k∨trmI g.ents (m.index+1+k)≠trmE l k)
def fstN(g:LogN)(m:MsgS)(l:List EntS) : Option Nat:=(List.range l.length).find? (misM g m l)
def zerM : MsgS:=msg0 0 0 0 0 0 0 false
def ansM(g:LogN)(m:MsgS) : MsgS:=msg0 8 g.i m.frm m.term (m.index+m.ents.length) 0 true
def cmtF(g:LogN)(m:MsgS) : LogN:={ g with commit:=max g.commit (min m.commit (m.index+m.ents.length)) }
def takF(g:LogN)(m:MsgS) : Option Nat→LogN×MsgS×Int×Int
 | none=>(cmtF g m,ansM g m,0,0)
 | some k=>if m.index+1+k≤g.commit then(g,zerM,0,13) else if 1024 < m.index+m.ents.length then(g,zerM,0,8)
  else(cmtF { g with ents:=g.ents.take (m.index+k).toNat ++ m.ents.drop k } m,ansM g m,m.index+1+k,0)
def appF(g:LogN)(m:MsgS) : LogN×MsgS×Int×Int :=
 if fitB g m=false then(g,zerM,0,1)
 else if 0 < g.leads then(g,zerM,0,9)
 else if(g.ents.length:Int) < m.index∨trmI g.ents m.index≠m.logt then(g,msg0 8 g.i m.frm m.term (min (m.index - 1) g.ents.length) 0 false,0,0)
 else takF g m (fstN g m m.ents)
theorem append_no(p:Nat)(v:Value)(g:LogN)(m:MsgS)(l:List EntS)(hes:m.es=some l)(hl:g.ents.length≤100000)(hn:fitB g m=false∨0 < g.leads∨(g.ents.length:Int) < m.index∨trmI g.ents m.index≠m.logt) : CallA Try.prog 101 [pm p,msgA m] (logR p v g) fun r own=>r= .tup [msgA (appF g m).2.1,it (appF g m).2.2.1,it (appF g m).2.2.2]∧own=logR p v (appF g m).1:=by
 have hf:=formed_a p v g m l hes
 unfold appF
 cases hb:fitB g m
 ·rw [hb] at hf
  rw [if_pos rfl]
  unfold msgA msgC at hf ⊢
  rw [hes,eoA] at hf ⊢
  refine CallA.of pg ord101 Try.func101 rfl Try.ntmps101 Try.results101 rfl fun h0 G0 O0=>?_
  repeat'(first|apply Sp.h|refine Lk.r rfl ?_|refine Rf.mk rfl ?_|refine xB ?_|refine All.mk fun _=>?_|refine xT ?_|refine Ch.l ⟨rfl,rfl⟩ ?_|(apply SetAsk.r;focus repeat' constructor)|(apply Fk.r;focus repeat' first|infer_instance|constructor)|refine xN ?_|(((apply Cl.use (hf);(focus repeat' constructor);(focus repeat' constructor);focus rfl));(rintro _ _ ⟨rfl,rfl⟩)))
  all_goals exact⟨_,_, .tup (.same (.same (.same (.z)))),rfl,rfl⟩
 rw [hb] at hf
 rw [if_neg (fun h=>by cases h)]
 by_cases h1:0 < g.leads
 ·rw [if_pos h1]
  unfold msgA msgC at hf ⊢
  rw [hes,eoA] at hf ⊢
  refine CallA.of pg ord101 Try.func101 rfl Try.ntmps101 Try.results101 rfl fun h0 G0 O0=>?_
  repeat'(first|apply Sp.h|refine Lk.r rfl ?_|refine Rf.mk rfl ?_|refine xA ?_|refine All.mk fun _=>?_|refine xT ?_|refine Ch.l ⟨rfl,rfl⟩ ?_|(apply SetAsk.r;focus repeat' constructor)|(apply Fk.r;focus repeat' first|infer_instance|constructor)|refine xN ?_|(((apply Cl.use (hf);(focus repeat' constructor);(focus repeat' constructor);focus rfl));(rintro _ _ ⟨rfl,rfl⟩)))
  all_goals exact⟨_,_, .tup (.same (.same (.same (.z)))),rfl,rfl⟩
 rw [if_neg h1]
 have hfit:=hb
 simp only [fitB,Bool.and_eq_true,endB,inR,decide_eq_true_eq] at hfit
 obtain⟨⟨_,_⟩,⟨_,hx1,hx2⟩,hlg⟩:=hfit
 obtain⟨k,hk⟩:=Int.eq_ofNat_of_zero_le hx1
 by_cases h2:(g.ents.length:Int) < m.index
 ·rw [if_pos (.inl h2)]
  unfold msgA msgC at hf ⊢
  rw [hes,eoA] at hf ⊢
  refine CallA.of pg ord101 Try.func101 rfl Try.ntmps101 Try.results101 rfl fun h0 G0 O0=>?_
  repeat'(first|apply Sp.h|refine Lk.r rfl ?_|refine Rf.mk rfl ?_|refine xA ?_|refine xB ?_|refine OpK.r rfl ?_|refine All.mk fun _=>?_|refine xU ?_|refine xT ?_|refine Ch.l ⟨rfl,rfl⟩ ?_|refine xV ?_|(apply SetAsk.r;focus repeat' constructor)|(apply Fk.r;focus repeat' first|infer_instance|constructor)|refine xN ?_|refine xD ?_|refine xO ?_|(((apply Cl.use (hf);(focus repeat' constructor);(focus repeat' constructor);focus rfl));(rintro _ _ ⟨rfl,rfl⟩)))
  all_goals first
   | exact⟨_,_, .tup (.same (.same (.same (.z)))),rfl,rfl⟩
   | exact(by omega:False).elim
 have h3:trmI g.ents m.index≠m.logt:=((hn.resolve_left (fun h=>by rw [hb] at h;cases h)).resolve_left h1).resolve_left h2
 rw [if_pos (.inr h3)]
 have ht:=lterm_r g k hl (by omega)
 rw [←hk] at ht
 generalize trmI g.ents m.index=y at ht h3
 unfold msgA msgC at hf ⊢
 rw [hes,eoA] at hf ⊢
 refine CallA.of pg ord101 Try.func101 rfl Try.ntmps101 Try.results101 rfl fun h0 G0 O0=>?_
 repeat'(first|apply Sp.h|refine Lk.r rfl ?_|refine Rf.mk rfl ?_|refine xA ?_|refine xB ?_|refine OpK.r rfl ?_|refine All.mk fun _=>?_|refine xU ?_|refine xT ?_|refine Ch.l ⟨rfl,rfl⟩ ?_|refine xV ?_|(apply SetAsk.r;focus repeat' constructor)|(apply Fk.r;focus repeat' first|infer_instance|constructor)|refine xN ?_|refine xD ?_|refine xO ?_|(((apply Cl.use (hf);(focus repeat' constructor);(focus repeat' constructor);focus rfl));(rintro _ _ ⟨rfl,rfl⟩))|(apply Cl.lend (ht);(focus((repeat'(first|exact Lend.nil|apply Lend.keep|(apply Lend.lend;(focus repeat constructor);(focus first|omega|(simp;omega)))|(apply Lend.cell;(focus repeat constructor))|fail));done))))
 all_goals first
  | exact⟨_,_, .tup (.same (.same (.same (.z)))),rfl,rfl⟩
  | exact(by omega:False).elim
def apO : Nat→Ord×(Nat→Cls):=fun id=>bif Nat.beq id 5 then(.one 0 (.one 1 (.one 2 (.one 3 (.one 4 (.one 5 (.one 6 (.one 7 (.one 8 (.one 9 (.one 10 .done)))))))))),clOf [.pure, .pure, .pure, .read, .pure, .read, .pure, .read, .pure, .ext, .loud]) else bif Nat.beq id 6 then(.one 0 (.one 1 (.one 2 (.one 3 (.one 4 (.one 5 (.one 6 (.one 7 (.one 8 (.one 9 (.one 10 (.one 11 (.one 13 (.one 14 (.one 12 (.one 15 (.one 16 .done)))))))))))))))),clOf [.pure, .read, .pure, .pure, .pure, .read, .pure, .pure, .pure, .pure, .pure, .read, .ext, .pure, .read, .pure, .pure]) else bif Nat.beq id 7 then(.one 0 (.one 1 (.one 2 (.one 3 (.one 4 (.one 5 (.one 6 (.one 7 (.one 8 (.one 9 (.one 10 .done)))))))))),clOf [.pure, .read, .pure, .pure, .pure, .pure, .read, .pure, .pure, .pure, .loud]) else bif Nat.beq id 14 then(.one 0 (.one 1 (.one 2 (.one 3 (.one 4 (.one 5 (.one 6 (.one 7 (.one 8 (.one 9 (.one 11 (.one 12 (.one 10 (.one 13 (.one 14 .done)))))))))))))),clOf [.pure, .pure, .pure, .pure, .read, .pure, .pure, .pure, .pure, .pure, .ext, .pure, .read, .pure, .pure]) else bif Nat.beq id 19 then(.one 0 (.one 1 (.one 2 (.one 3 (.one 4 (.one 5 (.one 6 (.one 7 (.one 8 (.one 9 (.one 10 (.one 11 (.one 12 (.one 13 (.one 14 (.one 15 (.one 16 (.one 17 (.one 18 .done)))))))))))))))))),clOf [.pure, .pure, .pure, .pure, .read, .pure, .pure, .pure, .pure, .pure, .pure, .read, .pure, .pure, .ext, .loud, .pure, .pure, .loud]) else bif Nat.beq id 22 then(.one 0 (.one 2 (.one 6 (.alt 1 (.alt 3 (.one 4 (.one 5 (.one 7 (.one 8 (.one 9 .done))))) (.alt 7 (.one 3 (.one 4 (.one 5 (.one 8 (.one 9 .done))))) (.none))) (.alt 3 (.one 4 (.alt 1 (.one 5 (.one 7 (.one 8 (.one 9 .done)))) (.alt 7 (.one 1 (.one 5 (.one 8 (.one 9 .done)))) (.none)))) (.alt 7 (.alt 1 (.one 3 (.one 4 (.one 5 (.one 8 (.one 9 .done))))) (.alt 3 (.one 4 (.one 1 (.one 5 (.one 8 (.one 9 .done))))) (.none))) (.none)))))),clOf [.pure, .loud, .pure, .loud, .pure, .pure, .pure, .loud, .pure, .loud]) else bif Nat.beq id 23 then(.one 0 (.one 1 (.one 2 (.one 3 (.one 4 (.one 5 (.one 6 (.one 7 (.one 8 (.one 9 (.one 10 (.one 11 (.one 12 (.one 13 .done))))))))))))),clOf [.pure, .pure, .pure, .pure, .read, .pure, .read, .pure, .read, .pure, .pure, .pure, .pure, .loud]) else(.done,clOf [])
theorem fst_none{g:LogN}{m:MsgS}{l:List EntS}(h:∀j,j < l.length→misM g m l j=false) : fstN g m l=none :=
 List.find?_eq_none.2 fun j hj=>by rw [h j (List.mem_range.1 hj)];exact Bool.false_ne_true
theorem fst_some{g:LogN}{m:MsgS}{l:List EntS}{i:Nat}(hi:i < l.length)(h:∀j,j < i→misM g m l j=false)(hm:misM g m l i=true) : fstN g m l=some i:=by
 unfold fstN
 rw [List.find?_eq_some_iff_getElem]
 refine⟨hm,i,by simpa using hi,by simp,fun j hj=>?_⟩
 rw [List.getElem_range,h j hj];rfl
theorem append_yes(p:Nat)(v:Value)(g:LogN)(m:MsgS)(l:List EntS)(hes:m.es=some l)(hl:g.ents.length≤100000)(hll:l.length≤100000)(hvl:VotL l)(hc0:0≤g.commit)
  (hb:fitB g m=true) (h1:¬0 < g.leads) (h2:m.index≤g.ents.length) (h3:trmI g.ents m.index=m.logt):CallA Try.prog 101 [pm p,msgA m] (logR p v g) fun r own=>r= .tup [msgA (appF g m).2.1,it (appF g m).2.2.1,it (appF g m).2.2.2]∧∃v',own=logR p v' (appF g m).1:=by
 have hf:=formed_a p v g m l hes
 rw [hb] at hf
 have hml:m.ents=l:=by rw [MsgS.ents,hes];rfl
 have hA:appF g m=takF g m (fstN g m l):=by
  unfold appF
  rw [if_neg (by rw [hb];exact Bool.noConfusion),if_neg h1,if_neg (fun h=>h.elim (by omega) fun h=>h h3),hml]
 have hfit:=hb
 simp only [fitB,Bool.and_eq_true,endB,inR,decide_eq_true_eq] at hfit
 obtain⟨⟨_,_⟩,⟨⟨hy1,hy2⟩,hx1,hx2⟩,hlg⟩:=hfit
 obtain⟨k,hk⟩:=Int.eq_ofNat_of_zero_le hx1
 have ht:=lterm_r g k hl (by omega)
 rw [←hk,h3] at ht
 rw [hA]
 unfold msgA msgC at hf ⊢
 rw [hes,eoA] at hf
 rw [hes,eoA]
 refine CallA.of pg apO Try.func101 rfl Try.ntmps101 Try.results101 rfl fun h0 G0 O0=>?_
 repeat'(first|apply Sp.h|refine Lk.r rfl ?_|refine Rf.mk rfl ?_|refine xA ?_|refine xB ?_|refine OpK.r rfl ?_|refine Im.mk fun _=>?_|refine All.mk fun _=>?_|refine xU ?_|refine xT ?_|refine Ch.l ⟨rfl,rfl⟩ ?_|(apply SetAsk.r;focus repeat' constructor)|(apply Fk.r;focus repeat' first|infer_instance|constructor)|refine xN ?_|refine xD ?_|(((apply Cl.use (hf);(focus repeat' constructor);(focus repeat' constructor);focus rfl));(rintro _ _ ⟨rfl,rfl⟩))|(apply Cl.lend (ht);(focus((repeat'(first|exact Lend.nil|apply Lend.keep|(apply Lend.lend;(focus repeat constructor);(focus first|omega|(simp;omega)))|(apply Lend.cell;(focus repeat constructor))|fail));done))))
 rename_i b3 b4 b7 _
 clear hf ht
 refine CA.loop (fun i:Nat=>⟨[(0,pm p),(3,pm b3),(4,pm b4),(7,pm b7),(8,it 0),(63,entsA l),(64,it (l.length:Nat)),(65,it i)],blkR b7 76 (msgC (msg0 8 g.i m.frm m.term 0 0 false)) :: blkR b4 76 (msgC (msg0 0 0 0 0 0 0 false)) :: blkR b3 76 (msgL m l) :: logR p v g⟩) (fun i=>i≤l.length∧∀j,j < i→misM g m l j=false) (fun i=>l.length - i) 0 xE ⟨zZ _,fun j h=>by omega⟩ ?_
 rintro i ⟨hi,hok⟩
 by_cases hin:i < l.length
 rotate_left
 ·have:i=l.length:=by omega
  subst this
  rw [fst_none hok]
  unfold takF cmtF ansM
  rw [hml]
  repeat'(first|apply Sp.h|refine Lk.r rfl ?_|refine Rf.mk rfl ?_|refine xB ?_|refine OpK.r rfl ?_|apply Im.mk|refine xT ?_|refine Ch.l ⟨rfl,rfl⟩ ?_|refine xV ?_|(apply SetAsk.r;focus repeat' constructor)|refine xN ?_|refine xD ?_|exact trivial|apply RA'.both|refine xO ?_|intro _)
  all_goals exact⟨_,_, .tup (.same (.same (.same (.z)))),rfl,_,rfl⟩
 obtain⟨e,he⟩:=get_of hin
 have hte:trmE l i=e.term:=by unfold trmE;rw [he];rfl
 have hmd:misM g m l i=decide ((g.ents.length:Int) < m.index+1+i∨trmI g.ents (m.index+1+i)≠e.term):=by unfold misM;rw [hte]
 have hlast:misM g m l i=false→∀j,j < i+1→misM g m l j=false:=fun h j hj=>by
  by_cases hji:j=i
  ·rw [hji];exact h
  ·exact hok j (by omega)
 have hki:k+i≤g.ents.length:=by
  cases i with
  | zero=>omega
  | succ n =>
   have h9:=hok n (by omega)
   unfold misM at h9
   have h8:=of_decide_eq_false h9
   have:¬((g.ents.length:Int) < m.index+1+n):=fun h=>h8 (.inl h)
   omega
 have hdt:(l.drop i).take (l.length - i)=l.drop i:=List.take_of_length_le (by simp)
 have e4:(m.index+i).toNat=k+i:=by omega
 have e3:m.index+1+i - 1=((k+i:Nat):Int):=by omega
 have hc:=rclone_o ((l.drop i).take (l.length - i)) (by simp;omega) (fun e he=>hvl e (List.mem_of_mem_drop (zW he)))
 have hsome:misM g m l i=true→takF g m (fstN g m l)=if m.index+1+i≤g.commit then(g,zerM,0,13) else if 1024 < m.index+(l.length:Nat) then(g,zerM,0,8) else(cmtF { g with ents:=g.ents.take (k+i) ++ (l.drop i).take (l.length - i) } m,ansM g m,m.index+1+i,0):=fun h=>by
  rw [fst_some hin hok h,takF,hml,e4,hdt]
 by_cases q1:(g.ents.length:Int) < m.index+1+i
 ·rw [hsome (by rw [hmd];exact zT (.inl q1))]
  by_cases d1:m.index+1+i≤g.commit
  ·rw [if_pos d1]
   repeat'(first|apply Sp.h|refine Lk.r rfl ?_|refine Rf.mk rfl ?_|refine xA ?_|refine xB ?_|refine OpK.r rfl ?_|apply All.mk|refine xU ?_|refine xT ?_|refine xI ?_|refine Ch.l ⟨rfl,rfl⟩ ?_|(apply SetAsk.r;focus repeat' constructor)|(apply Fk.r;focus repeat' first|infer_instance|constructor)|refine xN ?_|refine xD ?_|refine xO ?_|intro _)
   all_goals first
    | exact(by omega:False).elim
    | exact⟨_,_, .tup (.same (.same (.same (.z)))),rfl,_,rfl⟩
  rw [if_neg d1]
  by_cases d2:1024 < m.index+(l.length:Nat)
  ·rw [if_pos d2]
   repeat'(first|apply Sp.h|refine Lk.r rfl ?_|refine Rf.mk rfl ?_|refine xA ?_|refine xB ?_|refine OpK.r rfl ?_|apply Im.mk|apply All.mk|refine xU ?_|refine xT ?_|refine xI ?_|refine Ch.l ⟨rfl,rfl⟩ ?_|(apply SetAsk.r;focus repeat' constructor)|(apply Fk.r;focus repeat' first|infer_instance|constructor)|refine xN ?_|refine xD ?_|refine xO ?_|intro _)
   all_goals first
    | exact(by omega:False).elim
    | exact⟨_,_, .tup (.same (.same (.same (.z)))),rfl,_,rfl⟩
  rw [if_neg d2]
  unfold cmtF ansM
  rw [hml]
  repeat'(first|apply Sp.h|refine Lk.r rfl ?_|refine Rf.mk rfl ?_|refine xA ?_|refine xB ?_|refine OpK.r rfl ?_|refine xP ?_|refine Im.mk fun _=>?_|refine All.mk fun _=>?_|refine xU ?_|refine xT ?_|refine xI ?_|refine Ch.l ⟨rfl,rfl⟩ ?_|refine xV ?_|(apply SetAsk.r;focus repeat' constructor)|refine xN ?_|refine Rf.mk ⟨rfl,rfl⟩ ?_|(apply Jx.r;(focus exact rfl);(focus first|omega|(simp;done)|(simp;omega)))|refine Mp.same ?_|refine xD ?_|exact trivial|apply RA'.both|refine xO ?_|(apply Jx.r;(focus exact e3);(focus omega))|((refine Cl.use (hc) (by repeat'(first|exact Lend.nil|apply Lend.keep|fail)) .nil rfl ?_;rintro _ _ ⟨_,rfl,rfl⟩)))
  all_goals first
   | exact(by omega:False).elim
   | exact⟨_,_, .tup (.same (.same (.same (.z)))),rfl,_,rfl⟩
 have ht2:=lterm_r g (k+1+i) hl (by omega)
 have e2:((k+1+i:Nat):Int)=m.index+1+i:=by omega
 rw [e2] at ht2
 by_cases q2:trmI g.ents (m.index+1+i)=e.term
 ·have hno:=hlast (by rw [hmd];exact zF (fun h=>h.elim q1 fun h=>h q2))
  rw [q2] at ht2
  repeat'(first|apply Sp.h|refine Lk.r rfl ?_|refine Rf.mk rfl ?_|refine xA ?_|refine OpK.r rfl ?_|refine All.mk fun _=>?_|refine xU ?_|refine xT ?_|refine xI ?_|refine Ch.l ⟨rfl,rfl⟩ ?_|(apply SetAsk.r;focus repeat' constructor)|refine xN ?_|refine xD ?_|refine xO ?_|(apply Cl.lend (ht2);(focus((repeat'(first|exact Lend.nil|apply Lend.keep|(apply Lend.lend;(focus repeat constructor);(focus first|omega|(simp;omega)))|(apply Lend.cell;(focus repeat constructor))|fail));done))))
  all_goals first
   | exact(by omega:False).elim
   | exact PA.lp (i+1) xE ⟨⟨hin,hno⟩,by omega⟩
 rw [hsome (by rw [hmd];exact zT (.inr q2))]
 generalize trmI g.ents (m.index+1+i)=y at ht2 q2
 by_cases d1:m.index+1+i≤g.commit
 ·rw [if_pos d1]
  repeat'(first|apply Sp.h|refine Lk.r rfl ?_|refine Rf.mk rfl ?_|refine xA ?_|refine xB ?_|refine OpK.r rfl ?_|refine All.mk fun _=>?_|refine xU ?_|refine xT ?_|refine xI ?_|refine Ch.l ⟨rfl,rfl⟩ ?_|(apply SetAsk.r;focus repeat' constructor)|(apply Fk.r;focus repeat' first|infer_instance|constructor)|refine xN ?_|refine xD ?_|refine xO ?_|(apply Cl.lend (ht2);(focus((repeat'(first|exact Lend.nil|apply Lend.keep|(apply Lend.lend;(focus repeat constructor);(focus first|omega|(simp;omega)))|(apply Lend.cell;(focus repeat constructor))|fail));done))))
  all_goals first
   | exact(by omega:False).elim
   | exact⟨_,_, .tup (.same (.same (.same (.z)))),rfl,_,rfl⟩
 rw [if_neg d1]
 by_cases d2:1024 < m.index+(l.length:Nat)
 ·rw [if_pos d2]
  repeat'(first|apply Sp.h|refine Lk.r rfl ?_|refine Rf.mk rfl ?_|refine xA ?_|refine xB ?_|refine OpK.r rfl ?_|refine Im.mk fun _=>?_|refine All.mk fun _=>?_|refine xU ?_|refine xT ?_|refine xI ?_|refine Ch.l ⟨rfl,rfl⟩ ?_|(apply SetAsk.r;focus repeat' constructor)|(apply Fk.r;focus repeat' first|infer_instance|constructor)|refine xN ?_|refine xD ?_|refine xO ?_|(apply Cl.lend (ht2);(focus((repeat'(first|exact Lend.nil|apply Lend.keep|(apply Lend.lend;(focus repeat constructor);(focus first|omega|(simp;omega)))|(apply Lend.cell;(focus repeat constructor))|fail));done))))
  all_goals first
   | exact(by omega:False).elim
   | exact⟨_,_, .tup (.same (.same (.same (.z)))),rfl,_,rfl⟩
 rw [if_neg d2]
 unfold cmtF ansM
 rw [hml]
 repeat'(first|apply Sp.h|refine Lk.r rfl ?_|refine Rf.mk rfl ?_|refine xA ?_|refine xB ?_|refine OpK.r rfl ?_|refine xP ?_|refine Im.mk fun _=>?_|refine All.mk fun _=>?_|refine xU ?_|refine xT ?_|refine xI ?_|refine Ch.l ⟨rfl,rfl⟩ ?_|refine xV ?_|(apply SetAsk.r;focus repeat' constructor)|refine xN ?_|refine Rf.mk ⟨rfl,rfl⟩ ?_|(apply Jx.r;(focus exact rfl);(focus first|omega|(simp;done)|(simp;omega)))|refine Mp.same ?_|refine xD ?_|exact trivial|apply RA'.both|refine xO ?_|(apply Jx.r;(focus exact e3);(focus omega))|((refine Cl.use (hc) (by repeat'(first|exact Lend.nil|apply Lend.keep|fail)) .nil rfl ?_;rintro _ _ ⟨_,rfl,rfl⟩))|(apply Cl.lend (ht2);(focus((repeat'(first|exact Lend.nil|apply Lend.keep|(apply Lend.lend;(focus repeat constructor);(focus first|omega|(simp;omega)))|(apply Lend.cell;(focus repeat constructor))|fail));done))))
 all_goals first
  | exact(by omega:False).elim
  | exact⟨_,_, .tup (.same (.same (.same (.z)))),rfl,_,rfl⟩
theorem sl_rows0{α:Type}{sz:Nat}{l:List α}{f:α→List AV}{h:Heap}{G:Nat→Prop}{sv:Value}(hs:(AV.sl sz l f).R h G sv) : l.length≤9223372036854775807∧∃p cap rows,sv= .slice p l.length cap∧Go.CF.Rows h G sz rows l f∧
  (0 < l.length→∃b o,p=some ⟨b,o,none⟩∧G b∧b < h.size∧Cels h ⟨b,o,none⟩ rows.flatten):=by
 obtain⟨hm,⟨rfl,p,cap,rfl⟩|⟨b,o,cap,rows,rfl,h1,h2,hg,hlt,hc,hr⟩⟩:=hs
 ·exact⟨hm,p,cap,[],rfl,Rows.nil,fun h=>by simp at h⟩
 ·exact⟨hm,_,cap,rows,rfl,hr,fun _=>⟨b,o,rfl,hg,hlt,hc⟩⟩
theorem cels_row{h:Heap}{b o sz:Nat}{rows:List (List Value)}{i:Nat}{r:List Value}(hc:Cels h ⟨b,o,none⟩ rows.flatten)(hz:∀r∈rows,r.length=sz)(hi:rows[i]?=some r) : Cels h ⟨b,o+i * sz,none⟩ r:=by
 refine⟨fun j v hv=>?_⟩
 have h1:=hc.get (i * sz+j) v (rows_flat rows i j r v hz hi hv)
 rw [addr_add] at h1 ⊢
 rwa [Nat.add_assoc]
theorem ent_it(l:List EntS) : ItA Try.prog 92 [.ad [entsA l] 0] (l.zipIdx.reverse.map fun p=> [it (p.2:Nat),entA p.1]):=by
 refine ItA.of fun h G vs _ hr=>?_
 match vs,hr with
 | [p],⟨hp,_⟩ =>
 obtain⟨b,o,cs,rfl,hgb,hbl,hc,hrl⟩:=hp
 match cs,hrl,hc with
 | [sv],hrl,hc =>
 obtain⟨hm,q,cap,rows,rfl,hrows,hcel⟩:=sl_rows0 hrl.t.1
 have hlen:=hrows.len
 refine⟨rows.zipIdx.reverse.map fun p=> [.int .i64 (p.2:Nat), .agg p.1.toArray],by simp [hlen],fun i y x hy hx=>?_,⟨fun lp J Jx w hC _ _ hY hJ=>?_⟩⟩
 ·simp only [zG,Option.map_eq_some_iff] at hy hx
  obtain⟨⟨r,j⟩,hy,rfl⟩:=hy
  obtain⟨⟨u,j2⟩,hx,rfl⟩:=hx
  have hil:=(zS.1 hy).1
  simp only [List.length_reverse,List.length_zipIdx] at hil
  rw [List.getElem?_reverse (by simpa using hil)] at hy
  rw [List.getElem?_reverse (by simpa [←hlen] using hil)] at hx
  simp only [List.length_zipIdx,List.getElem?_zipIdx,Option.map_eq_some_iff] at hy hx
  obtain⟨r',hr1,hr2⟩:=hy
  obtain⟨u',hu1,hu2⟩:=hx
  simp only [Prod.mk.injEq] at hr2 hu2
  obtain⟨rfl,rfl⟩:=hr2
  obtain⟨rfl,rfl⟩:=hu2
  rw [←hlen] at hu1
  refine⟨?_,⟨_,rfl,hrows.row _ _ _ hr1 hu1⟩,trivial⟩
  show _=_
  rw [hlen]
 ·refine(YC.calls (vs:= [.func (.yield lp) #[] #[], .pointer (some ⟨b,o+0,none⟩)]) (R:=fun w'=>Sm w w'∧(J (rows.zipIdx.reverse.map fun p=> [Value.int .i64 (p.2:Nat), .agg p.1.toArray]).length w'.heap∨∃i,i≤(rows.zipIdx.reverse.map fun p=> [Value.int .i64 (p.2:Nat), .agg p.1.toArray]).length∧Jx i w'.heap)) Try.func92 rfl Try.ntmps92 Try.results92 rfl ?_)
  have hy2:∀i (hi:i < rows.length),(rows.zipIdx.reverse.map fun p=> [Value.int .i64 (p.2:Nat), .agg p.1.toArray])[rows.length - (i+1)]?=some [.int .i64 (i:Nat), .agg rows[i].toArray]:=fun i hi=>by
   rw [zG,List.getElem?_reverse (by simp;omega),List.length_zipIdx,List.getElem?_zipIdx,show rows.length - 1 - (rows.length - (i+1))=i by omega,zE hi]
   simp
  have hyl:(rows.zipIdx.reverse.map fun p=> [Value.int .i64 (p.2:Nat), .agg p.1.toArray]).length=rows.length:=by simp
  rw [hyl] 
  generalize (rows.zipIdx.reverse.map fun p=> [Value.int .i64 (p.2:Nat), .agg p.1.toArray])=ys at *
  have hstep:∀(e:Env) (w':World),FPx G h w'.heap→Cels w'.heap ⟨b,o,none⟩ [.slice q l.length cap]:=fun e w' hf=>hc.of_block (hf.same b hgb hbl)
  have hrow:∀(w':World),FPx G h w'.heap→∀(i:Nat) (hi:i < rows.length),∃b2 o2,q=some ⟨b2,o2,none⟩∧Cels w'.heap ⟨b2,o2+i * 6,none⟩ rows[i]∧rows[i].length=6:=fun w' hf i hi=>by
   obtain⟨b2,o2,e1,e2,e3,e4⟩:=hcel (by omega)
   have h1:rows[i]?=some rows[i]:=zE hi
   exact⟨b2,o2,e1,cels_row (e4.of_block (hf.same b2 e2 e3)) hrows.sz h1,hrows.sz _ (List.getElem_mem _)⟩
  have hl9:rows.length≤9223372036854775807:=by omega
  have hsz:ti89.size=6:=rfl
  refine YC.seq (YC.region ?_)
  refine YO.step rfl rfl (by intro c h;cases h) (St.load pg (ti:=ti59) rfl rfl rfl ((hstep [] w (hC 0 _ hJ)).get 0 _ rfl) (by simp) rfl ?_)
  refine YO.step rfl rfl (by intro c h;cases h) (St.len pg (ti:=ti59) rfl rfl rfl ?_)
  refine YO.step rfl rfl (by intro c h;cases h) (St.sub (j:=1) rfl rfl (by omega) ?_)
  refine YO.step rfl rfl (by intro c h;cases h) (St.assign rfl ?_)
  refine YO.nil ?_
  refine(YC.block (YC.loop (fun m e w'=>m≤rows.length∧Go.CF.look e 0=some (.func (.yield lp) #[] #[])∧Go.CF.look e 1=some (.pointer (some ⟨b,o+0,none⟩))∧Go.CF.look e 3=some (.int .i64 ((m:Int) - 1))∧Sm w w'∧J (rows.length - m) w'.heap) rows.length ?_ ?_))
  ·refine⟨Nat.le_refl _,rfl,rfl, ?_,Sm.refl w,by rw [Nat.sub_self];exact hJ⟩
   rw [hlen];rfl
  ·rintro m e w' ⟨hm1,k0,k1,k3,hsm,hJ'⟩
   have hf:=hC _ _ hJ'
   refine YC.seq (YC.seq (YC.region ?_))
   refine YO.step rfl rfl (by intro c h;cases h) (St.move k3 ?_)
   refine YO.step rfl rfl (by intro c h;cases h) (St.geq (j:=0) rfl rfl ?_)
   refine YO.nil ?_
   refine(YC.cond rfl (fun hb=>YC.skip ?_) (fun hb=>YC.exit ?_))
   ·have hb:(0:Int)≤(m:Int) - 1:=by simpa using hb
    obtain⟨i,rfl⟩:∃i,m=i+1:=⟨m - 1,by omega⟩
    have k3:Go.CF.look e 3=some (.int .i64 (i:Nat)):=by rw [k3];congr 2;omega
    obtain⟨b2,o2,rfl,hrc,hr3⟩:=hrow w' hf i (by omega)
    refine YC.seq (YC.block (YC.seq (YC.region ?_)))
    refine YO.step rfl rfl (by intro c h;cases h) (St.move k0 ?_)
    refine YO.step rfl rfl (by intro c h;cases h) (St.move k3 ?_)
    refine YO.step rfl rfl (by intro c h;cases h) (St.load pg (ti:=ti59) rfl rfl k1 ((hstep [] w' hf).get 0 _ rfl) (by simp) rfl ?_)
    refine YO.step rfl rfl (by intro c h;cases h) (St.move k3 ?_)
    refine YO.step rfl rfl (by intro c h;cases h) (St.indexAddr (i:=i) pg (ti:=ti59) (te:=ti89) rfl rfl rfl rfl rfl (by omega) (by omega) ?_)
    refine YO.step rfl rfl (by intro c h;cases h) (St.loadS pg (ti:=ti89) rfl rfl rfl hrc (by simp) (by rw [hr3];rfl) rfl ?_)
    refine YO.yield rfl rfl rfl rfl rfl ?_
    have hyi:=hy2 i (by omega)
    obtain⟨fn,tm,asg,bd,g1,g2⟩:=hY (rows.length - (i+1)) _ w' hyi hJ' hsm
    refine⟨fn,tm,asg,bd,g1,g2.mono fun e' w'' ⟨q1,q2⟩=>?_⟩
    rcases q2 with⟨rfl,q2⟩|⟨rfl,q2⟩
    ·refine⟨_,rfl, ?_⟩
     refine YO.step rfl rfl (by intro c h;cases h) (St.not rfl ?_)
     refine YO.nil ?_
     refine YC.cond (b:=false) rfl (fun hb=>by cases hb) (fun _=>YC.skip ?_)
     refine YC.region ?_
     refine YO.step rfl rfl (by intro c h;cases h) (St.move k3 ?_)
     refine YO.step rfl rfl (by intro c h;cases h) (St.sub (j:=1) rfl rfl (by omega) ?_)
     refine YO.step rfl rfl (by intro c h;cases h) (St.assign rfl ?_)
     refine YO.nil ?_
     refine⟨i,by omega,by omega,k0,k1,rfl,hsm.trans q1, ?_⟩
     rw [show rows.length - i=rows.length - (i+1)+1 by omega];exact q2
    ·refine⟨_,rfl, ?_⟩
     refine YO.step rfl rfl (by intro c h;cases h) (St.not rfl ?_)
     refine YO.nil ?_
     refine YC.cond (b:=true) rfl (fun _=>YC.ret ?_) (fun hb=>by cases hb)
     exact⟨.inr rfl,hsm.trans q1, .inr ⟨_,by omega,q2⟩⟩
   ·have hb:¬(0:Int)≤(m:Int) - 1:=by simpa using hb
    obtain rfl:m=0:=by omega
    exact⟨.inl rfl,hsm, .inl (by simpa using hJ')⟩
def lasN(l:List EntS) : Nat→Nat
 | 0=>0
 | k+1=>if(l[k]?.map EntS.kind)=some 2 then k+1 else lasN l k
def lastF(l:List EntS) : Nat:=lasN l l.length
def votA(l:List EntS)(k:Nat) : List Int:=(l[k - 1]?.map EntS.vot).getD []
def rngI(n:Int) : List Int:=(List.range n.toNat).map fun r:Nat=>(r:Int)
def votF(n:Int)(l:List EntS) : List Int:=if lastF l=0 then rngI n else votA l (lastF l)
structure NodS where
 e:EleN
 g:LogN
 ticks:Int
def lstT(g:LogN) : Int:=trmI g.ents (g.ents.length:Nat)
def votN(s:NodS) : List Int:=votF s.g.n s.g.ents
def allM(g:LogN) : List MsgS:=if g.leads=0 then [] else((rngI g.n).filter fun r=>othF g.n g.i r).map (sendM g)
def resF(e:EleN) : EleN:=seeF e (e.term+1)
def stpF(g:LogN) : LogN:={ g with leads:=0 }
def setA(s:NodS) : NodS×List MsgS :=
 if s.e.role=2∧s.g.leads≠s.e.term then
  (if(leadF s.g s.e.term).2.2≠0 then({ s with e:=resF s.e },[]) else({ s with g:=(leadF s.g s.e.term).1,ticks:=0 },allM (leadF s.g s.e.term).1))
 else(s,[])
def setB(s:NodS) : NodS:=if s.e.role=2 then s else { s with g:=stpF s.g }
def goneB(n i:Int)(g:LogN) : Bool:=decide (0 < lastF g.ents∧(lastF g.ents:Int)≤g.commit∧¬i∈votA g.ents (lastF g.ents))
def setC(s:NodS) : NodS :=
 if s.g.leads=0 then s
 else if goneB s.g.n s.g.i (advF s.g (votN s)).1 then { s with e:=resF s.e,g:=stpF (advF s.g (votN s)).1 } else { s with g:=(advF s.g (votN s)).1 }
def setF(s:NodS) : NodS×List MsgS:=(setC (setB (setA s).1),(setA s).2)
structure RecS where
 kind:Int
 j:Nat→Value
 term:Int
 vote:Int
 index:Int
 ent:EntS
def jr0 : Nat→Value
 | 3=> .slice none 0 0
 | 13=> .slice none 0 0
 | 15=> .slice none 0 0
 | 16=> .slice none 0 0
 | 17=> .slice none 0 0
 | 18=> .slice none 0 0
 | 19=> .slice none 0 0
 | _=> .int .i64 0
def recV(t v:Int) : RecS:=⟨2,jr0,t,v,0,⟨0,0,0,0,0,[]⟩⟩
def recE(k:Nat)(e:EntS) : RecS:=⟨3,jr0,0,0,k,e⟩
def difN(a b:List EntS) : Nat→Nat→Nat
 | _,0=>0
 | k,f+1=>if b.length≤k then k else if a[k]?=b[k]? then difN a b (k+1) f else k
def firstD(a b:List EntS) : Nat:=difN a b 0 (b.length+1)
def recL(l:List EntS)(k:Nat) : List RecS:=(l.zipIdx.drop k).map fun p=>recE (p.2+1) p.1
def recsF(a b:NodS) : List RecS:=(if a.e.term=b.e.term∧a.e.vote=b.e.vote then [] else [recV b.e.term b.e.vote]) ++ recL b.g.ents (firstD a.g.ents b.g.ents)
structure OutS where
 recs:List RecS
 msgs:List MsgS
def calF(s:NodS)(r:NodS×List MsgS) : NodS×OutS:=((setF r.1).1,⟨recsF s (setF r.1).1,r.2 ++ (setF r.1).2⟩)
def tikN(s:NodS) : NodS×List MsgS :=
  if 0 < s.g.leads then
    (if s.ticks+1=3 then({ s with e:=(tickF s.e (votN s) s.g.ents.length (lstT s.g)).1,ticks:=0 },(tickF s.e (votN s) s.g.ents.length (lstT s.g)).2 ++ allM s.g)
     else({ s with e:=(tickF s.e (votN s) s.g.ents.length (lstT s.g)).1,ticks:=s.ticks+1 },(tickF s.e (votN s) s.g.ents.length (lstT s.g)).2))
  else({ s with e:=(tickF s.e (votN s) s.g.ents.length (lstT s.g)).1 },(tickF s.e (votN s) s.g.ents.length (lstT s.g)).2)
def tickN(s:NodS) : NodS×OutS:=calF s (tikN s)
def toB(s:NodS)(m:MsgS) : Bool:=decide (m.to=s.e.i) && othF s.e.n s.e.i m.frm
def appN(s:NodS)(m:MsgS) : NodS×List MsgS :=
 if toB s m=false then(s,[])
 else if(followF s.e m.frm m.term).2=true then
  ({ s with e:=(followF s.e m.frm m.term).1,g:=(appF (stpF s.g) m).1 },if(appF (stpF s.g) m).2.2.2=0 then [(appF (stpF s.g) m).2.1] else [])
 else({ s with e:=(followF s.e m.frm m.term).1 },if 1≤m.term∧m.term < (followF s.e m.frm m.term).1.term then [msg0 8 s.e.i m.frm (followF s.e m.frm m.term).1.term 0 0 false] else [])
def apdN(s:NodS)(m:MsgS) : NodS×List MsgS :=
 if toB s m=false then(s,[])
 else if s.g.leads=0∨s.g.leads≠m.term∨(seeF s.e m.term).role≠2 then({ s with e:=seeF s.e m.term },[])
 else({ s with e:=seeF s.e m.term,g:=apdF s.g m },if(sendF (apdF s.g m) m.frm).2≠0∨m.granted=true∧(sendF (apdF s.g m) m.frm).1.ents= [] then [] else [(sendF (apdF s.g m) m.frm).1])
def rcvN(s:NodS)(m:MsgS) : NodS×List MsgS :=
 if m.kind=5∨m.kind=6 then({ s with e:=(recvF s.e m (votN s) s.g.ents.length (lstT s.g)).1 },(recvF s.e m (votN s) s.g.ents.length (lstT s.g)).2)
 else if m.kind=7 then appN s m
 else if m.kind=8 then apdN s m
 else(s,[])
def recvN(s:NodS)(m:MsgS) : NodS×OutS:=calF s (rcvN s m)
def ldsB(s:NodS) : Bool:=decide (s.e.role=2∧0 < s.g.leads)
def proN(s:NodS)(e:EntS) : NodS×Int×OutS×Int :=
 if(propF s.g e).2.2≠0 then((calF s (s,[])).1,0,⟨[],[]⟩,(propF s.g e).2.2)
 else((calF s ({ s with g:=(propF s.g e).1,ticks:=0 },allM (propF s.g e).1)).1,(propF s.g e).2.1,(calF s ({ s with g:=(propF s.g e).1,ticks:=0 },allM (propF s.g e).1)).2,0)
def propN(s:NodS)(e:EntS) : NodS×Int×OutS×Int :=
 if ldsB s=false then(s,0,⟨[],[]⟩,9) else if e.kind≠1 then(s,0,⟨[],[]⟩,1) else proN s e
def cntD(a b:List Int) : Nat:=(a.filter fun v=>decide (¬v∈b)).length
def oneB(a b:List Int) : Bool:=decide (cntD a b+cntD b a=1)
def chgE(s:NodS)(vs:List Int) : EntS:=⟨max s.g.leads 1,2,0,0,0,vs⟩
def chgB(s:NodS) : Bool:=decide (ldsB s=false∨s.g.commit < (lastF s.g.ents:Int)∨s.g.commit=0∨trmI s.g.ents s.g.commit≠s.g.leads)
def chgN(s:NodS)(vs:List Int) : NodS×Int×OutS×Int :=
 if chgB s=true then(s,0,⟨[],[]⟩,9)
 else if valB s.g.n [chgE s vs]=false∨oneB vs (votN s)=false then(s,0,⟨[],[]⟩,1)
 else proN s (chgE s vs)
def rcoF(n i:Int) : List RecS→Int×Int×List EntS→Int×(Int×Int×List EntS)
 | [],x=>(0,x)
 | r :: l,(t,v,es) =>
  if r.kind=2 then(if ResE n i r.term r.vote then rcoF n i l (r.term,r.vote,es) else(1,t,v,es))
  else if r.kind=3 then(if r.index < 1∨(es.length:Int)+1 < r.index then(1,t,v,es) else rcoF n i l (t,v,es.take (r.index - 1).toNat ++ [r.ent]))
  else rcoF n i l (t,v,es)
def recoF(n i:Int)(l:List RecS) : Int×NodS :=
 if¬ResE n i 0 (-1) then(1,⟨ele0 n i 0 (-1),log0 n i [],0⟩)
 else if(rcoF n i l (0,-1,[])).1≠0 then(1,⟨ele0 n i 0 (-1),log0 n i [],0⟩)
 else if¬ResL n i (rcoF n i l (0,-1,[])).2.2.2 then(1,⟨ele0 n i 0 (-1),log0 n i [],0⟩)
 else(0,⟨ele0 n i (rcoF n i l (0,-1,[])).2.1 (rcoF n i l (0,-1,[])).2.2.1,log0 n i (rcoF n i l (0,-1,[])).2.2.2,0⟩)
end Go.Proofs.Ythlpimbhonihhaa
namespace Go.CF
open Go
theorem results_cell_cell{fn:Func}{p q:Tmp}{ty tz:TypeId}(h:fn.results=#[.cell p ty, .cell q tz])(tmps:Array Value)(P:Program)(w:World) :
  (results fn tmps).run P w =
   ((asAddr (tmps.getD p undef)).run P w).andThen fun a w₁=>((loadVar ty a).run P w₁).andThen fun v w₂=>((asAddr (tmps.getD q undef)).run P w₂).andThen fun b w₃=>((loadVar tz b).run P w₃).andThen fun u w₄=> .ok (.tuple #[v,u]) w₄:=by
 simp only [results,h]
 simp [Sem.run_bind,Result.andThen]
section
variable {Γ:Cx} {k:List KI} {e:EA} {o:List Res} {N:NA} {c:Cls} {d:Tmp} {ty tz:TypeId} {x y:Operand} {t u:TypeId}
theorem St.neq_snil{P:Program}{tt:Nat→Option TI}{en:Nat→Bool}{n:Nat}{fp:Fp}{env:Env}{h:Heap}{N:Env→Heap→Prop}(G:PgOK P tt en){ti:TI}{e l1 c1 l2 c2:Nat}{p:Option Addr}(ht:tt t=some ti)(hk:ti.kind= .slice e)(hx:ev env x=some (.slice p l1 c1))(hy:ev env y=some (.slice none l2 c2))(k:N ((d, .bool (!p.isNone)) :: env) h) :
  St P n fp c (some d) (.binOp .neq t x y u) ty env h N :=
 .ofPu (v:= .bool (!p.isNone)) (fun a w ha=>by
  have hu:=(G.ok _ _ ht).slice hk
  simp [mkOp,execOp,ha.ev hx,ha.ev hy,eqGuard_at_slice,run_neq_slice_nil_any w t e p l1 c1 l2 c2 hu]) k
instance {v:Value} {m cp:Nat} : Sp (Ap2 Γ c d (.binOp .neq t x y u) ty e o N x (.ow v) y (.val (.slice none m cp))) (Lk (slE Γ.tt t) fun _=>TkA o v fun _ _ l _ _=>All fun b:Bool=>Im (l≠ []→b=true) (N ((d, .val (.bool b)) :: e) o)):=⟨fun⟨p,hp,α,T,sz,l,f,rest,tk,hn⟩=>⟨fun ha hb=>⟨fun env hh G Os cn=>by
 obtain⟨w,h1,rfl,q,len,cap,rfl⟩:=cn.get ha
 obtain⟨w',h2,h3⟩:=cn.get hb
 have h3:w'=_:=h3
 subst h3
 obtain⟨O,Os',cn2⟩:=cn.take tk
 obtain⟨⟨_,rows,hw,_⟩,_⟩:=cn2.hp.own
 obtain⟨ti,t1,t2,t3⟩:=slE_spec hp
 refine St.neq_snil Γ.ok t1 t2 h1 h2 (CN.mk (cn.put d (a:= .val (.bool (!q.isNone))) rfl) ((hn.ok (!q.isNone)).k fun hne=>?_))
 rcases hw.ok with⟨_,e2⟩|⟨b',of,cap',L,e1,_⟩
 ·exact absurd (zQ e2) hne
 ·cases e1;rfl⟩⟩⟩
instance {q:Option Addr} {m' cp' m cp:Nat} : Sp (Ap2 Γ c d (.binOp .neq t x y u) ty e o N x (.val (.slice q m' cp')) y (.val (.slice none m cp))) (Lk (slE Γ.tt t) fun _=>N ((d, .val (.bool (!q.isNone))) :: e) o):=⟨fun⟨p,hp,hn⟩=>puv2 hn fun _ _ _ h h' k=>by
 obtain⟨ti,t1,t2,t3⟩:=slE_spec hp
 exact St.neq_snil Γ.ok t1 t2 h h' k⟩
theorem ResX.cellII{a b:Tmp}{kk:AV→Prop}{b1 b2:Nat}{T1 T2:TypeId}{x y:AV}{rest1 rest2:List Res}{ti tj:TI}(ha:lookA e a=some (.val (.pointer (some ⟨b1,0,none⟩))))(hb:lookA e b=some (.val (.pointer (some ⟨b2,0,none⟩))))(tk1:Take o (blkR b1 T1 [x]) rest1)(tk2:Take o (blkR b2 T2 [y]) rest2)
  (ht:Γ.tt ty=some ti) (hna:ti.kind.agg=false) (ht2:Γ.tt tz=some tj) (hnb:tj.kind.agg=false) (hk:kk (.tup [x,y])):ResX Γ e o [.cell a ty, .cell b tz] kk:=⟨⟨.tup [x,y],hk,fun hr env h G Os cn=>by
 obtain⟨v,g1,g2⟩:=cn.env a _ ha
 have g2:v=_:=g2
 subst g2
 obtain⟨v,g3,g4⟩:=cn.env b _ hb
 have g4:v=_:=g4
 subst g4
 obtain⟨O,Os',cn2⟩:=cn.take tk1
 obtain⟨⟨_,vs,hb1,hrl1⟩,_⟩:=cn2.hp.own
 obtain⟨O2,Os2,cn3⟩:=cn.take tk2
 obtain⟨⟨_,ws,hb2,hrl2⟩,_⟩:=cn3.hp.own
 match vs,hrl1.t,ws,hrl2.t with
 | [v0],⟨hv,_⟩,[w0],⟨hw0,_⟩ =>
  have hrs:Γ.rs=#[.cell a ty, .cell b tz]:=Array.ext' hr
  refine⟨.tuple #[v0,w0], ?_,[v0,w0],rfl,hv,hw0,trivial⟩
  rw [hrs]
  intro ac w fn ha' hw hfr
  rw [results_cell_cell hfr]
  have k1:=fun w=>(Γ.ok.ok _ _ ht).run_agg (w:=w) hna
  have k2:=fun w=>(Γ.ok.ok _ _ ht2).run_agg (w:=w) hnb
  have k3:w.cell? ⟨b1,0,none⟩=some v0:=((hb1.cels0.cell (j:=0) rfl).shut hw).get w rfl
  have k4:w.cell? ⟨b2,0,none⟩=some w0:=((hb2.cels0.cell (j:=0) rfl).shut hw).get w rfl
  simp [ha'.val _ _ g1,ha'.val _ _ g3,asAddr,loadVar,k1,k2,k3,k4]⟩⟩
end
end Go.CF
namespace Go.Proofs.Ythlpimbhonihhaa
open Go Go.CF
theorem ent_seq_p(l:List EntS) : CallP Try.prog 69 [entsA l] (.fn 92 [.ad [entsA l] 0]):=by
 refine CallA.of pg ordZ Try.func69 rfl Try.ntmps69 Try.results69 rfl fun h0 G0 O0=>?_
 (repeat'(first|(show CA _ _ (Code.region 1 _ _) _ _;apply Stopped.out)|apply Sp.h|refine Lk.r rfl ?_|refine Rf.mk rfl ?_|apply All.mk|intro _));any_goals apply Stopped.mk
 rename_i b
 refine CA.freezeB 1 rfl (by repeat constructor) ?_
 repeat'(first|apply Sp.h|refine Lk.r rfl ?_|refine Rf.mk rfl ?_|refine xN ?_|fail)
 exact Fin.p rfl rfl
theorem las_skip{l:List EntS} :∀{n k:Nat},k≤n→(∀(i:Nat) (e:EntS),k≤i→i < n→l[i]?=some e→e.kind≠2)→lasN l n=lasN l k
 | 0,k,h,_=>by rw [show k=0 by omega]
 | n+1,k,h,hk=>by
  by_cases hkn:k=n+1
  ·rw [hkn]
  ·have h1:=las_skip (n:=n) (k:=k) (by omega) fun i e h1 h2=>hk i e h1 (by omega)
   rw [lasN,h1,if_neg]
   intro h2
   rw [Option.map_eq_some_iff] at h2
   obtain⟨e,he,h3⟩:=h2
   exact hk n e (by omega) (by omega) he h3
theorem rev_at{α:Type}{l:List α}{j:Nat}{e:α}(h:l.reverse[j]?=some e) : j < l.length∧l[l.length - 1 - j]?=some e:=by
 have hj:=(zS.1 h).1
 rw [List.length_reverse] at hj
 rw [List.getElem?_reverse hj] at h
 exact⟨hj,h⟩
theorem last_o(l:List EntS)(hl:l.length≤100000)(hv:VotL l) : CallA Try.prog 40 [entsA l] [] fun r own=>(lastF l=0∧r= .tup [it 0, .val (.slice none 0 0)]∧own= [])∨(0 < lastF l∧∃v,r= .tup [it (lastF l:Nat), .ow v]∧own= [arrR v 3 1 (votA l (lastF l)) intC]):=by
 have hs:=ent_seq_p l
 refine CallA.of pg ordZ Try.func40 rfl Try.ntmps40 Try.results40 rfl fun h0 G0 O0=>?_
 repeat'(first|apply Sp.h|refine Lk.r rfl ?_|refine Rf.mk rfl ?_|refine All.mk fun _=>?_|refine xN ?_|(apply Cl.p (hs);focus repeat' constructor))
 rename_i b2 b3
 refine CA.range (xs:=l.zipIdx.reverse.map fun p=> [it (p.2:Nat),entA p.1]) rfl rfl (ent_it _) (fun x hx=>by
  obtain⟨p,_,rfl⟩:=List.mem_map.1 hx;rfl) rfl
  (fun j o'=>(∀(r:Nat) (u:EntS),r < j→l.reverse[r]?=some u→u.kind≠2)∧o'= [blkR b3 40 [.val (.slice none 0 0)],blkR b2 3 [it 0]])
  (fun x o'=>x= .ret∧0 < lastF l∧∃v,o'= [arrR v 3 1 (votA l (lastF l)) intC,blkR b3 40 [.ow v],blkR b2 3 [it (lastF l:Nat)]])
  ⟨fun r u hr=>by omega,rfl⟩ ?_ ?_ ?_ ?_ ?_
 ·rintro j x o' hx ⟨hno,rfl⟩ h0' G0' O0' h0g
  rw [zG,Option.map_eq_some_iff] at hx
  obtain⟨⟨u,k⟩,hp,rfl⟩:=hx
  have hu:l.reverse[j]?=some u:=by
   have h1:=congrArg (Option.map Prod.fst) hp
   rw [←zG,List.map_reverse,List.zipIdx_map_fst] at h1
   exact h1
  obtain⟨hj,hu2⟩:=rev_at hu
  have hk:k=l.length - 1 - j:=by
   obtain⟨hj2,h2⟩:=rev_at hp
   rw [List.length_zipIdx,List.getElem?_zipIdx,Option.map_eq_some_iff] at h2
   obtain⟨_,_,h3⟩:=h2
   cases h3
   omega
  have hk2:((k:Nat):Int)+1=((k+1:Nat):Int):=by omega
  by_cases hc:u.kind=2
  ·have hlf:lastF l=k+1:=by
    have h1:=las_skip (l:=l) (n:=l.length) (k:=k+1) (by omega) fun i e h1 h2 he=>hno (l.length - 1 - i) e (by omega) (by rw [List.getElem?_reverse (by omega),show l.length - 1 - (l.length - 1 - i)=i by omega];exact he)
    rw [lastF,h1,lasN,if_pos]
    rw [hk,hu2,Option.map_some,hc]
   have hva:votA l (lastF l)=u.vot:=by rw [hlf,votA,Nat.add_sub_cancel,hk,hu2];rfl
   have hcl:=clone_o u.vot (by have:=hv _ (zM hu2);omega)
   rw [hva,hlf]
   repeat'(first|apply Sp.h|refine Lk.r rfl ?_|refine Rf.mk rfl ?_|apply All.mk|refine xT ?_|(apply SetAsk.r;focus repeat' constructor)|refine xN ?_|intro _)
   apply PA.brk h0g rfl
   repeat'(first|apply Sp.h|refine Lk.r rfl ?_|refine Rf.mk rfl ?_|refine xA ?_|refine xT ?_|refine xO ?_|fail)
   (refine Cl.use (hcl) (by repeat'(first|exact Lend.nil|apply Lend.keep|fail)) .nil rfl ?_;rintro _ _ ⟨_,rfl,rfl⟩)
   rename_i v
   repeat'(first|apply Sp.h|refine Lk.r rfl ?_|refine Rf.mk rfl ?_|refine xT ?_|refine xV ?_|fail)
   all_goals exact PA.rd [arrR v 3 1 u.vot intC,blkR b3 40 [.ow v],blkR b2 3 [it ((k+1:Nat):Int)]] (by rw [←hk2];(repeat first|exact .nil|refine .cons (by repeat constructor) ?_)) ⟨rfl,by omega,v,rfl⟩
  ·repeat'(first|apply Sp.h|refine Lk.r rfl ?_|refine Rf.mk rfl ?_|apply All.mk|refine xT ?_|(apply SetAsk.r;focus repeat' constructor)|refine xN ?_|intro _)
   apply PA.brk h0g rfl
   repeat'(first|apply Sp.h|refine Lk.r rfl ?_|refine Rf.mk rfl ?_|refine xB ?_|refine xT ?_|fail)
   all_goals refine PA.rd [blkR b3 40 [.val (.slice none 0 0)],blkR b2 3 [it 0]] (by(repeat first|exact .nil|refine .cons (by repeat constructor) ?_)) ⟨fun r w hr h9=>?_,rfl⟩
   rcases Nat.lt_succ_iff_lt_or_eq.1 hr with hr|rfl
   ·exact hno r w hr h9
   ·rw [hu] at h9;cases h9;exact hc
 ·rintro o' ⟨hno,rfl⟩
  have hlf:lastF l=0:=by
   rw [lastF,las_skip (k:=0) (zZ _) fun i e _ h2 he=>hno (l.length - 1 - i) e (by simp;omega) (by rw [List.getElem?_reverse (by omega),show l.length - 1 - (l.length - 1 - i)=i by omega];exact he)]
   rfl
  repeat'(first|apply Sp.h|refine Lk.r rfl ?_|refine Rf.mk rfl ?_|refine xT ?_|refine xV ?_|refine xN ?_|fail)
  refine ResX.cellII rfl rfl (by repeat constructor) (by repeat constructor) rfl rfl rfl rfl ?_
  exact⟨_,_, .tup (.same (.same (.z))), .inl ⟨hlf,rfl,rfl⟩⟩
 ·rintro o' ⟨_,h0,v,rfl⟩
  repeat'(first|apply Sp.h|refine xN ?_|fail)
  refine ResX.cellII rfl rfl (by repeat constructor) (by repeat constructor) rfl rfl rfl rfl ?_
  exact⟨_,_, .tup (.same (.same (.z))), .inr ⟨h0,v,rfl,rfl⟩⟩
 ·rintro r o' ⟨h,_⟩;cases h
 ·rintro r o' ⟨h,_⟩;cases h
end Go.Proofs.Ythlpimbhonihhaa
