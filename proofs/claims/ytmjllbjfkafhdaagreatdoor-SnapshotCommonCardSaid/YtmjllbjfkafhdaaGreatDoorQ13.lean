/- Part 13 of the ground of this proof: what its texts say of the model, the program and the plain data; conditions: those that are named. -/
import Derived.Shelf.Slices.In.SortNone
import Derived.Test.YtmjllbjfkafhdaaGreatDoorQ12
namespace Go.Proofs.YtmjllbjfkafhdaaGreatDoor
open Go Go.CF
instance {v:Value} {sz j r:Nat} : OneA (.oe v sz j r):=⟨by rintro h G u ⟨b,o,len,cap,_,rfl⟩;rfl⟩
def usF(m:ModS)(e:EvS) : List UpS:=match m.acts[e.action.toNat]? with
 | some a=>a.eff.updates
 | none=> []
noncomputable def cellsF(ts:List TblS)(l:List MgS)(us:List UpS)(e:EvS) : List (Int×MgS):=(List.range l.length).map fun(i:Nat)=>match ts[i]?,l[i]? with
 | some t,some g=>cellF e t (updF us i) g
 | _,_=>(0,⟨false,false,[]⟩)
theorem cellsF_at{ts:List TblS}{l:List MgS}{us:List UpS}{e:EvS}{i:Nat}{t:TblS}{g:MgS}(ht:ts[i]?=some t)(hg:l[i]?=some g) : (cellsF ts l us e)[i]?=some (cellF e t (updF us i) g):=by
 have hi:=(zS.1 hg).1
 rw [cellsF,zG,List.getElem?_range hi,Option.map_some,ht,hg]
theorem cellsF_len{ts:List TblS}{l:List MgS}{us:List UpS}{e:EvS} : (cellsF ts l us e).length=l.length:=by simp [cellsF]
noncomputable def gatherF(C:List (Int×MgS)) : Int×List MgS:=match C.find? fun p=>decide (p.1≠0∧p.1≠8) with
 | some p=>(p.1,[])
 | none=>if∃p∈C,p.1=8 then(8,[]) else(0,C.map (·.2))
noncomputable def applyF(m:ModS)(l:List MgS)(e:EvS) : Int×List MgS :=
 if¬(ValL (mrgF m) l∧EvV m (e.past.length:Nat) e) then(1,[])
 else if e.kind≠0 then(0,l)
 else gatherF (cellsF (mrgF m) l (usF m e) e)
theorem updT_succ{us:List UpS}{i:Nat}{u:UpS}(h:us[i]?=some u) : updT (us.take (i+1))=updL (updT (us.take i)) [u.2.1] u:=by
 rw [zK,h,updT,List.foldl_append];rfl
theorem gather_bad{C:List (Int×MgS)}{i:Nat}{q:Int×MgS}(hq:C[i]?=some q)(h1:∀p∈C.take i,p.1=0∨p.1=8)(h2:q.1≠0)(h3:q.1≠8) : gatherF C=(q.1,[]):=by
 have hf:C.find? (fun p=>decide (p.1≠0∧p.1≠8))=some q:=find_at hq (by simp [h2,h3]) fun j y hj hy=>by
  have:=h1 y (zM (i:=j) (by rw [List.getElem?_take,if_pos hj];exact hy))
  rcases this with h|h <;> simp [h]
 rw [gatherF,hf]
theorem gather_end{C:List (Int×MgS)}(h1:∀p∈C,p.1=0∨p.1=8) : gatherF C=if∃p∈C,p.1=8 then(8,[]) else(0,C.map (·.2)):=by
 have hf:C.find? (fun p=>decide (p.1≠0∧p.1≠8))=none:=List.find?_eq_none.2 fun p hp=>by
  rcases h1 p hp with h|h <;> simp [h]
 rw [gatherF,hf]
theorem cellF_none{e:EvS}{t:TblS}{u:UpS}{g:MgS}(h:lookL rulesL [t.kind,u.1]=none) : cellF e t (some u) g=(0,g):=by
 have no:∀a b:Int,t.kind=a∧u.1=b→lookL rulesL [a,b]=none:=fun a b ⟨h1,h2⟩=>by rw [←h1,←h2];exact h
 have n1:¬(t.kind=2∧u.1=0):=fun h9=>absurd (no _ _ h9) (by decide)
 have n2:¬(t.kind=3∧u.1=1):=fun h9=>absurd (no _ _ h9) (by decide)
 have n3:¬(t.kind=2∧u.1=1):=fun h9=>absurd (no _ _ h9) (by decide)
 have n4:¬(t.kind=3∧u.1=0):=fun h9=>absurd (no _ _ h9) (by decide)
 have n5:¬(t.kind=4∧u.1=2):=fun h9=>absurd (no _ _ h9) (by decide)
 have n6:¬(t.kind=5∧u.1=2):=fun h9=>absurd (no _ _ h9) (by decide)
 simp only [cellF,n1,n2,n3,n4,n5,n6,or_self,if_false]
def ApK(q:Int×List MgS)(r:AV)(own:List Res) : Prop :=
 (∃v L,q.1=0∧r= .tup [.ow v,it 0]∧own=outR v L∧L.map MgE.g=q.2)∨(q.1≠0∧r= .tup [.val (.slice none 0 0),it q.1]∧own= [])
theorem apply_a(m:ModS)(l:List MgS)(e:EvS)(hm:MOK m) : CallA Tryz.prog 105 [mdl m,mgs l,evA' e] [] (ApK (applyF m l e)):=by
 have hva:=validM_p m l hm.lay
 have hev:=evalid_p m (e.past.length:Nat) e
 by_cases hv:ValL (mrgF m) l∧EvV m (e.past.length:Nat) e
 rotate_left
 ·have hF:applyF m l e=(1,[]):=if_pos hv
  rw [hF]
  refine CallA.of pg ord105 Tryz.func105 rfl Tryz.ntmps105 Tryz.results105 rfl fun h0 G0 O0=>?_
  by_cases h1:ValL (mrgF m) l
  ·have h2:¬EvV m (e.past.length:Nat) e:=fun h=>hv ⟨h1,h⟩
   repeat'(first|apply Sp.h|refine Lk.r rfl ?_|refine Rf.mk rfl ?_|refine xA ?_|refine xB ?_|refine Im.mk fun _=>?_|refine All.mk fun _=>?_|refine xT ?_|refine Ch.l ⟨rfl,rfl⟩ ?_|refine xN ?_|(apply Cl.p (hva);focus repeat' constructor)|(apply Cl.p (hev);focus repeat' constructor))
   exact⟨_,_, .tup (.same (.same (.z))), .inr ⟨by decide,rfl,rfl⟩⟩
  ·repeat'(first|apply Sp.h|refine Lk.r rfl ?_|refine Rf.mk rfl ?_|refine xB ?_|refine All.mk fun _=>?_|refine xT ?_|refine Ch.l ⟨rfl,rfl⟩ ?_|refine xN ?_|(apply Cl.p (hva);focus repeat' constructor)|(apply Cl.p (hev);focus repeat' constructor))
   exact⟨_,_, .tup (.same (.same (.z))), .inr ⟨by decide,rfl,rfl⟩⟩
 obtain⟨h1,h2⟩:=hv
 have hl:l.length≤64:=by have:=h1.1;have:=hm.mrg;omega
 have hg:∀(i:Nat) g,l[i]?=some g→∃t,(mrgF m)[i]?=some t∧ValG t g:=fun i g hi=>by
  obtain⟨t,ht⟩:=get_of (l:=mrgF m) (i:=i) (by have:=h1.1;have:=(zS.1 hi).1;omega)
  exact⟨t,ht,h1.2 i t g ht hi⟩
 have hcl:=clone34_a l (by omega) (fun g hgm=>by
  obtain⟨i,hi⟩:=zO hgm
  obtain⟨t,_,hv⟩:=hg i g hi
  have:=hv.1.2.2.2
  omega)
 have hce:=cells_p m hm.lay
 have hru:=rules_a
 by_cases hk:e.kind=0
 rotate_left
 ·have hF:applyF m l e=(0,l):=by rw [applyF,if_neg (fun h=>h ⟨h1,h2⟩),if_pos hk]
  rw [hF]
  refine CallA.of pg ord105 Tryz.func105 rfl Tryz.ntmps105 Tryz.results105 rfl fun h0 G0 O0=>?_
  repeat'(first|apply Sp.h|refine Lk.r rfl ?_|refine Rf.mk rfl ?_|refine xA ?_|refine Im.mk fun _=>?_|refine All.mk fun _=>?_|refine xT ?_|refine Ch.l ⟨rfl,rfl⟩ ?_|(apply Cl.p (hva);focus repeat' constructor)|(apply Cl.p (hev);focus repeat' constructor))
  refine xW (hcl) ?_
  rintro _ _ ⟨v,L,rfl,hL,rfl⟩
  repeat'(first|apply Sp.h|refine Lk.r rfl ?_|refine Rf.mk rfl ?_|refine xB ?_|refine xT ?_|refine xN ?_|fail)
  exact⟨_,_, .tup (.same (.same (.z))), .inl ⟨v,L,rfl,rfl,rfl,hL⟩⟩
 have hF:applyF m l e=gatherF (cellsF (mrgF m) l (usF m e) e):=by rw [applyF,if_neg (fun h=>h ⟨h1,h2⟩),if_neg (fun h=>h hk)]
 rw [hF]
 have ha1:0≤e.action:=by
  have h9:=h2.1.2.2.2.2.2
  simp only [KindOK,Sub0,Btw] at h9
  omega
 have ha2:=h2.2.2 hk
 obtain⟨a,ha⟩:=get_of (l:=m.acts) (i:=e.action.toNat) (by omega)
 obtain⟨n,hn⟩:∃n:Nat,e.action=n:=⟨e.action.toNat,by omega⟩
 have hus:usF m e=a.eff.updates:=by rw [usF,ha]
 rw [hn] at ha
 rw [hus]
 have ha3:m.acts[n]?=some a:=by simpa using ha
 refine CallA.of pg ord105 Tryz.func105 rfl Tryz.ntmps105 Tryz.results105 rfl fun h0 G0 O0=>?_
 repeat'(first|apply Sp.h|refine Lk.r rfl ?_|refine Rf.mk rfl ?_|refine xA ?_|refine Im.mk fun _=>?_|refine All.mk fun _=>?_|refine xT ?_|refine Ch.l ⟨rfl,rfl⟩ ?_|(apply Cl.p (hva);focus repeat' constructor)|(apply Cl.p (hev);focus repeat' constructor))
 refine xW (hcl) ?_
 rintro _ _ ⟨v,L0,rfl,hL,rfl⟩
 repeat'(first|apply Sp.h|refine Lk.r rfl ?_|refine Rf.mk rfl ?_|refine xA ?_|refine xT ?_|refine Ch.l ⟨rfl,rfl⟩ ?_|(apply Cl.p (hce);focus repeat' constructor))
 (apply Cl.use (hru);(focus repeat'(first|exact Lend.nil|fail));(focus(repeat(first|exact Takes.nil|(apply Takes.cons;(focus repeat constructor)))));(focus rfl))
 rintro _ _ ⟨br,kvs,rfl,rfl,hlk⟩
 repeat'(first|apply Sp.h|refine Lk.r rfl ?_|refine Rf.mk rfl ?_|fail)
 refine MkM.r (fun u:UpS=>AV.agg (updC u)) ?_
 repeat'(first|apply Sp.h|refine Lk.r rfl ?_|refine Rf.mk rfl ?_|apply Im.mk|apply All.mk|refine xT ?_|(apply Ix.r;(focus assumption);(focus omega))|intro _)
 refine CA.loop (fun i:Nat=>⟨[(5,pm _),(8, .ow v),(9,tbls (mrgF m)),(10, .val (.map (some br))),(11, .val (.map (some _))),(12,bl false),(53, .sl 3 a.eff.updates updC),(54,it (a.eff.updates.length:Nat)),(55,it i)],
   [arrR v 231 3 L0 mgeC,bunR (L0.map mgeR),mapR Tryz.prog br 227 kvs fnV,mapR Tryz.prog _ 3 (updT (a.eff.updates.take i)) (fun u:UpS=>AV.agg (updC u)),blkR _ 66 (evC e)]⟩)
  (fun i=>i≤a.eff.updates.length) (fun i=>a.eff.updates.length - i) 0 xE (zZ _) ?_
 intro i hi
 by_cases hin:i < a.eff.updates.length
 ·obtain⟨u,hu⟩:=get_of hin
  have hsu:=updT_succ hu
  repeat'(first|apply Sp.h|refine Lk.r rfl ?_|refine Rf.mk rfl ?_|refine xA ?_|apply All.mk|refine xT ?_|refine xI ?_|refine Ch.l ⟨rfl,rfl⟩ ?_|(apply SetAsk.r;focus repeat' constructor)|refine xN ?_|(apply Kf.mk;(focus kernel_rfl))|refine xM ?_|refine UpV.r rfl ?_|refine xO ?_|intro _)
  rw [←hsu]
  exact PA.lp (i+1) xE ⟨hin,by omega⟩
 ·have hie:i=a.eff.updates.length:=by omega
  subst hie
  rw [zL]
  have hlen:(mrgF m).length=l.length:=h1.1
  obtain⟨C,hC⟩:∃C,C=cellsF (mrgF m) l a.eff.updates e:=⟨_,rfl⟩
  rw [←hC]
  (repeat'(first|(show CA _ _ (Code.region 13 _ _) _ _;apply Stopped.out)|apply Sp.h|refine Lk.r rfl ?_|refine Rf.mk rfl ?_|refine xB ?_|fail));any_goals apply Stopped.mk
  refine CA.sub ⟨[(5,pm _),(8, .ow v),(9,tbls (mrgF m)),(10, .val (.map (some br))),(11, .val (.map (some _))),(12,bl false)],
   [arrR v 231 3 L0 mgeC,bunR (L0.map mgeR),mapR Tryz.prog br 227 kvs fnV,mapR Tryz.prog _ 3 (updT a.eff.updates) (fun u:UpS=>AV.agg (updC u)),blkR _ 66 (evC e)]⟩ xE ?_
  repeat'(first|apply Sp.h|refine Lk.r rfl ?_|refine Rf.mk rfl ?_|apply Im.mk|intro _)
  rename_i b5 _ bu _ _
  refine CA.loop (fun x:Nat×List MgE×Bool=>⟨[(5,pm b5),(8, .ow v),(10, .val (.map (some br))),(11, .val (.map (some bu))),(12,bl x.2.2),(64,tbls (mrgF m)),(65,it ((mrgF m).length:Nat)),(66,it x.1)],
    [arrR v 231 3 x.2.1 mgeC,bunR (x.2.1.map mgeR),mapR Tryz.prog br 227 kvs fnV,mapR Tryz.prog bu 3 (updT a.eff.updates) (fun u:UpS=>AV.agg (updC u)),blkR b5 66 (evC e)]⟩)
   (fun x=>x.1≤l.length∧x.2.1.map MgE.g=(C.take x.1).map (·.2) ++ l.drop x.1∧(∀p∈C.take x.1,p.1=0∨p.1=8)∧(x.2.2=true↔∃p∈C.take x.1,p.1=8)) (fun x=>l.length - x.1) (0,L0,false) xE ⟨zZ _,by simpa using hL,by simp,by simp⟩ ?_
  rintro⟨i,D,lg⟩ ⟨g1,g2,g3,g4⟩
  simp only at g1 g2 g3 g4
  simp only
  by_cases hin:i < l.length
  ·obtain⟨g,hgi⟩:=get_of hin
   obtain⟨t,hti,hvg⟩:=hg i g hgi
   have hq:C[i]?=some (cellF e t (updF a.eff.updates i) g):=by rw [hC];exact cellsF_at hti hgi
   have htl:(C.take i).length=i:=by have:=(zS.1 hq).1;simp;omega
   have hDi:(D.map MgE.g)[i]?=some g:=by
    rw [g2,zJ (by simp;omega),List.getElem?_drop,List.length_map,htl]
    simpa using hgi
   obtain⟨x,hx,hxg⟩:∃x,D[i]?=some x∧x.g=g:=by
    rw [zG] at hDi
    cases hd:D[i]? with
    | none=>rw [hd] at hDi;cases hDi
    | some x=>rw [hd] at hDi;exact⟨x,rfl,by simpa using hDi⟩
   have hDl:=(zS.1 hx).1
   have hml:x.marks.length≤1024:=by have:=hvg.1.2.2.2;rw [←hxg] at this;exact this
   have hsrt:SrtK x.marks:=by have:=hvg.srt;rw [←hxg] at this;exact this
   have hreg:=register_p t
   have hlu:=updT_look a.eff.updates i
   have hbad:∀c y,cellF e t (updF a.eff.updates i) g=(c,y)→c≠0→c≠8→gatherF C=(c,[]):=fun c y h h0 h8=>gather_bad (h▸hq) g3 h0 h8
   have hsame:D.set i x=D:=by
    apply List.ext_getElem?
    intro j
    rw [List.getElem?_set]
    split
    ·rename_i hj;subst hj;first|rw [if_pos hDl,hx] | rw [hx]
    ·rfl
   (repeat'(first|(show CA _ _ (Code.block 3 _) _ _;apply Stopped.out)|apply Sp.h|refine Lk.r rfl ?_|refine Rf.mk rfl ?_|refine xA ?_|fail));any_goals apply Stopped.mk
   apply CA.bunTake (l:=D) (g:=mgeR) (i:=i) (x:=x)
   focus(repeat constructor)
   focus exact hx
   refine CA.cut (fun p:List MgE×MgE×Bool=>⟨[(5,pm b5),(8, .ow v),(10, .val (.map (some br))),(11, .val (.map (some bu))),(12,bl p.2.2),(64,tbls (mrgF m)),(65,it ((mrgF m).length:Nat)),(66,it i)],
    [arrR v 231 3 p.1 mgeC,mgeR p.2.1,bunR ((D.eraseIdx i).map mgeR),mapR Tryz.prog br 227 kvs fnV,mapR Tryz.prog bu 3 (updT a.eff.updates) (fun u:UpS=>AV.agg (updC u)),blkR b5 66 (evC e)]⟩)
    (fun p=>p.1=D.set i p.2.1∧p.2.1.g=(cellF e t (updF a.eff.updates i) g).2∧((cellF e t (updF a.eff.updates i) g).1=0∧p.2.2=lg∨(cellF e t (updF a.eff.updates i) g).1=8∧p.2.2=true)) ?_ ?_
   ·cases hup:updF a.eff.updates i with
    | none =>
     rw [hup] at hlu
     rcases hz:lookL rulesL [t.kind,0] with _|f0
     ·rw [←hlk] at hz
      repeat'(first|apply Sp.h|refine Lk.r rfl ?_|refine Rf.mk rfl ?_|refine xB ?_|apply All.mk|refine xT ?_|refine xI ?_|refine Ch.l ⟨rfl,rfl⟩ ?_|(apply SetAsk.r;focus repeat' constructor)|(apply Fk.r;focus repeat' first|infer_instance|constructor)|refine xN ?_|refine xK ?_|(apply Kf.mk;(focus kernel_rfl))|refine xM ?_|(apply Zx.agg;(focus rfl);(focus rfl);(focus repeat constructor))|apply Zx.one|(apply LkM.n;(focus first|assumption|rfl))|intro _)
      all_goals exact PA.lp (D,x,lg) xE ⟨hsame.symm,hxg, .inl ⟨rfl,rfl⟩⟩
     ·rw [←hlk] at hz
      repeat'(first|apply Sp.h|refine Lk.r rfl ?_|refine Rf.mk rfl ?_|refine xB ?_|apply All.mk|refine xT ?_|refine xI ?_|refine Ch.l ⟨rfl,rfl⟩ ?_|(apply SetAsk.r;focus repeat' constructor)|(apply Fk.r;focus repeat' first|infer_instance|constructor)|refine xN ?_|refine xK ?_|(apply Kf.mk;(focus kernel_rfl))|refine xM ?_|(apply Zx.agg;(focus rfl);(focus rfl);(focus repeat constructor))|(apply LkM.s;(focus first|assumption|rfl))|(apply LkM.n;(focus first|assumption|rfl))|intro _)
      all_goals exact PA.lp (D,x,lg) xE ⟨hsame.symm,hxg, .inl ⟨rfl,rfl⟩⟩
    | some u =>
     obtain⟨uk,uc,uv⟩:=u
     rw [hup] at hlu hbad
     rcases rules_cases t.kind uk with hz|⟨k1,k2,hz⟩|⟨k1,k2,hz⟩|⟨k1,k2,hz⟩|⟨k1,k2,hz⟩|⟨k1,k2,hz⟩|⟨k1,k2,hz⟩
     ·have hcell:=cellF_none (e:=e) (g:=g) (u:=(uk,uc,uv)) hz
      rw [←hlk] at hz
      repeat'(first|apply Sp.h|refine Lk.r rfl ?_|refine Rf.mk rfl ?_|refine xA ?_|refine xB ?_|apply All.mk|refine xT ?_|refine xI ?_|refine Ch.l ⟨rfl,rfl⟩ ?_|(apply SetAsk.r;focus repeat' constructor)|(apply Fk.r;focus repeat' first|infer_instance|constructor)|refine xN ?_|refine xK ?_|(apply Kf.mk;(focus kernel_rfl))|refine xM ?_|apply Zx.one|(apply LkM.s;(focus first|assumption|rfl))|(apply LkM.n;(focus first|assumption|rfl))|intro _)
      all_goals exact PA.lp (D,x,lg) xE ⟨hsame.symm,by rw [hcell];exact hxg, .inl ⟨by rw [hcell],rfl⟩⟩
     ·have hr:¬isReg t.kind:=by unfold isReg;omega
      have hcell:cellF e t (some (uk,uc,uv)) g=((addF x.marks ⟨e.rep,e.num,e.time,0⟩).1,⟨x.put,x.drop,(addF x.marks ⟨e.rep,e.num,e.time,0⟩).2⟩):=by
       rw [←hxg];simp [cellF,k1,k2,isReg,MgE.g]
      have hcon:=add_a v i e ⟨e.rep,e.num,e.time,0⟩ D x hx (hsrt.mono _) hml
      rw [←hlk] at hz
      repeat'(first|apply Sp.h|refine Lk.r rfl ?_|refine Rf.mk rfl ?_|refine xA ?_|refine xB ?_|refine OpK.r rfl ?_|refine All.mk fun _=>?_|refine xU ?_|refine xT ?_|refine xI ?_|refine Ch.l ⟨rfl,rfl⟩ ?_|(apply SetAsk.r;focus repeat' constructor)|(apply Fk.r;focus repeat' first|infer_instance|constructor)|refine xN ?_|refine xK ?_|(apply Kf.mk;(focus kernel_rfl))|refine xM ?_|(apply LkM.s;(focus first|assumption|rfl))|refine xD ?_|(apply Cl.p (hreg);focus repeat' constructor))
      refine xW (hcon) ?_
      rintro _ _ ⟨w',rfl,rfl⟩
      repeat'(first|apply Sp.h|refine Lk.r rfl ?_|refine Rf.mk rfl ?_|apply Bd.mk|refine xN ?_|intro _)
      ·exact PA.lp (D.set i ⟨x.put,x.drop,w',(addF x.marks ⟨e.rep,e.num,e.time,0⟩).2⟩,⟨x.put,x.drop,w',(addF x.marks ⟨e.rep,e.num,e.time,0⟩).2⟩,lg) xE ⟨rfl,by rw [hcell];rfl, .inl ⟨by rw [hcell];assumption,rfl⟩⟩
      ·exact PA.lp (D.set i ⟨x.put,x.drop,w',(addF x.marks ⟨e.rep,e.num,e.time,0⟩).2⟩,⟨x.put,x.drop,w',(addF x.marks ⟨e.rep,e.num,e.time,0⟩).2⟩,true) xE ⟨rfl,by rw [hcell];rfl, .inr ⟨by rw [hcell];assumption,rfl⟩⟩
      ·rw [hbad _ _ hcell (by assumption) (by assumption)]
       exact⟨_,_, .tup (.same (.same (.z))), .inr ⟨by assumption,rfl,rfl⟩⟩
     ·have hr:¬isReg t.kind:=by unfold isReg;omega
      have hcell:cellF e t (some (uk,uc,uv)) g=(0,⟨false,x.drop,fgK e.past x.marks⟩):=by
       rw [←hxg];simp [cellF,k1,k2,MgE.g]
      have hcon:=drop_a v i e ⟨e.rep,e.num,e.time,0⟩ D x hx hml
      rw [←hlk] at hz
      repeat'(first|apply Sp.h|refine Lk.r rfl ?_|refine Rf.mk rfl ?_|refine xA ?_|refine xB ?_|refine OpK.r rfl ?_|refine All.mk fun _=>?_|refine xU ?_|refine xT ?_|refine xI ?_|refine Ch.l ⟨rfl,rfl⟩ ?_|(apply SetAsk.r;focus repeat' constructor)|(apply Fk.r;focus repeat' first|infer_instance|constructor)|refine xN ?_|refine xK ?_|(apply Kf.mk;(focus kernel_rfl))|refine xM ?_|(apply LkM.s;(focus first|assumption|rfl))|refine xD ?_|(apply Cl.p (hreg);focus repeat' constructor))
      refine xW (hcon) ?_
      rintro _ _ ⟨rfl,w',rfl⟩
      repeat'(first|apply Sp.h|refine Lk.r rfl ?_|refine Rf.mk rfl ?_|refine xA ?_|fail)
      exact PA.lp (D.set i ⟨false,x.drop,w',fgK e.past x.marks⟩,⟨false,x.drop,w',fgK e.past x.marks⟩,lg) xE ⟨rfl,by rw [hcell];rfl, .inl ⟨by rw [hcell],rfl⟩⟩
     ·have hr:¬isReg t.kind:=by unfold isReg;omega
      have hcell:cellF e t (some (uk,uc,uv)) g=(0,⟨true,false,fgK e.past x.marks⟩):=by
       rw [←hxg];simp [cellF,k1,k2,MgE.g]
      have hcon:=put_a v i e ⟨e.rep,e.num,e.time,0⟩ D x hx hml
      rw [←hlk] at hz
      repeat'(first|apply Sp.h|refine Lk.r rfl ?_|refine Rf.mk rfl ?_|refine xA ?_|refine xB ?_|refine OpK.r rfl ?_|refine All.mk fun _=>?_|refine xU ?_|refine xT ?_|refine xI ?_|refine Ch.l ⟨rfl,rfl⟩ ?_|(apply SetAsk.r;focus repeat' constructor)|(apply Fk.r;focus repeat' first|infer_instance|constructor)|refine xN ?_|refine xK ?_|(apply Kf.mk;(focus kernel_rfl))|refine xM ?_|(apply LkM.s;(focus first|assumption|rfl))|refine xD ?_|(apply Cl.p (hreg);focus repeat' constructor))
      refine xW (hcon) ?_
      rintro _ _ ⟨rfl,w',rfl⟩
      repeat'(first|apply Sp.h|refine Lk.r rfl ?_|refine Rf.mk rfl ?_|refine xA ?_|fail)
      exact PA.lp (D.set i ⟨true,false,w',fgK e.past x.marks⟩,⟨true,false,w',fgK e.past x.marks⟩,lg) xE ⟨rfl,by rw [hcell];rfl, .inl ⟨by rw [hcell],rfl⟩⟩
     ·have hr:¬isReg t.kind:=by unfold isReg;omega
      have hcell:cellF e t (some (uk,uc,uv)) g=((addF x.marks ⟨e.rep,e.num,e.time,0⟩).1,⟨x.put,x.drop,(addF x.marks ⟨e.rep,e.num,e.time,0⟩).2⟩):=by
       rw [←hxg];simp [cellF,k1,k2,isReg,MgE.g]
      have hcon:=add_a v i e ⟨e.rep,e.num,e.time,0⟩ D x hx (hsrt.mono _) hml
      rw [←hlk] at hz
      repeat'(first|apply Sp.h|refine Lk.r rfl ?_|refine Rf.mk rfl ?_|refine xA ?_|refine xB ?_|refine OpK.r rfl ?_|refine All.mk fun _=>?_|refine xU ?_|refine xT ?_|refine xI ?_|refine Ch.l ⟨rfl,rfl⟩ ?_|(apply SetAsk.r;focus repeat' constructor)|(apply Fk.r;focus repeat' first|infer_instance|constructor)|refine xN ?_|refine xK ?_|(apply Kf.mk;(focus kernel_rfl))|refine xM ?_|(apply LkM.s;(focus first|assumption|rfl))|refine xD ?_|(apply Cl.p (hreg);focus repeat' constructor))
      refine xW (hcon) ?_
      rintro _ _ ⟨w',rfl,rfl⟩
      repeat'(first|apply Sp.h|refine Lk.r rfl ?_|refine Rf.mk rfl ?_|apply Bd.mk|refine xN ?_|intro _)
      ·exact PA.lp (D.set i ⟨x.put,x.drop,w',(addF x.marks ⟨e.rep,e.num,e.time,0⟩).2⟩,⟨x.put,x.drop,w',(addF x.marks ⟨e.rep,e.num,e.time,0⟩).2⟩,lg) xE ⟨rfl,by rw [hcell];rfl, .inl ⟨by rw [hcell];assumption,rfl⟩⟩
      ·exact PA.lp (D.set i ⟨x.put,x.drop,w',(addF x.marks ⟨e.rep,e.num,e.time,0⟩).2⟩,⟨x.put,x.drop,w',(addF x.marks ⟨e.rep,e.num,e.time,0⟩).2⟩,true) xE ⟨rfl,by rw [hcell];rfl, .inr ⟨by rw [hcell];assumption,rfl⟩⟩
      ·rw [hbad _ _ hcell (by assumption) (by assumption)]
       exact⟨_,_, .tup (.same (.same (.z))), .inr ⟨by assumption,rfl,rfl⟩⟩
     ·have hr:isReg t.kind:=by unfold isReg;omega
      have hcell:cellF e t (some (uk,uc,uv)) g=((lastF x.marks ⟨e.rep,e.num,e.time,uv⟩).1,⟨x.put,x.drop,(lastF x.marks ⟨e.rep,e.num,e.time,uv⟩).2⟩):=by
       rw [←hxg];simp [cellF,k1,k2,isReg,MgE.g]
      have hcon:=last_a v i e ⟨e.rep,e.num,e.time,uv⟩ D x hx hml
      rw [←hlk] at hz
      repeat'(first|apply Sp.h|refine Lk.r rfl ?_|refine Rf.mk rfl ?_|refine xA ?_|refine OpK.r rfl ?_|refine All.mk fun _=>?_|refine xU ?_|refine xT ?_|refine xI ?_|refine Ch.l ⟨rfl,rfl⟩ ?_|refine xV ?_|(apply SetAsk.r;focus repeat' constructor)|(apply Fk.r;focus repeat' first|infer_instance|constructor)|refine xN ?_|refine xK ?_|(apply Kf.mk;(focus kernel_rfl))|refine xM ?_|(apply LkM.s;(focus first|assumption|rfl))|refine xD ?_|(apply Cl.p (hreg);focus repeat' constructor))
      refine xW (hcon) ?_
      rintro _ _ ⟨rfl,w',rfl⟩
      repeat'(first|apply Sp.h|refine Lk.r rfl ?_|refine Rf.mk rfl ?_|apply Bd.mk|refine xN ?_|intro _)
      ·exact PA.lp (D.set i ⟨x.put,x.drop,w',(lastF x.marks ⟨e.rep,e.num,e.time,uv⟩).2⟩,⟨x.put,x.drop,w',(lastF x.marks ⟨e.rep,e.num,e.time,uv⟩).2⟩,lg) xE ⟨rfl,by rw [hcell];rfl, .inl ⟨by rw [hcell];assumption,rfl⟩⟩
      ·exact PA.lp (D.set i ⟨x.put,x.drop,w',(lastF x.marks ⟨e.rep,e.num,e.time,uv⟩).2⟩,⟨x.put,x.drop,w',(lastF x.marks ⟨e.rep,e.num,e.time,uv⟩).2⟩,true) xE ⟨rfl,by rw [hcell];rfl, .inr ⟨by rw [hcell];assumption,rfl⟩⟩
      ·rw [hbad _ _ hcell (by assumption) (by assumption)]
       exact⟨_,_, .tup (.same (.same (.z))), .inr ⟨by assumption,rfl,rfl⟩⟩
     ·have hr:isReg t.kind:=by unfold isReg;omega
      have hcell:cellF e t (some (uk,uc,uv)) g=((addF (fgK e.past x.marks) ⟨e.rep,e.num,e.time,uv⟩).1,⟨x.put,x.drop,(addF (fgK e.past x.marks) ⟨e.rep,e.num,e.time,uv⟩).2⟩):=by
       rw [←hxg];simp [cellF,k1,k2,isReg,MgE.g]
      have hcon:=multi_a v i e ⟨e.rep,e.num,e.time,uv⟩ D x hx hml ((hsrt.filter _).mono _)
      rw [←hlk] at hz
      repeat'(first|apply Sp.h|refine Lk.r rfl ?_|refine Rf.mk rfl ?_|refine xA ?_|refine OpK.r rfl ?_|refine All.mk fun _=>?_|refine xU ?_|refine xT ?_|refine xI ?_|refine Ch.l ⟨rfl,rfl⟩ ?_|refine xV ?_|(apply SetAsk.r;focus repeat' constructor)|(apply Fk.r;focus repeat' first|infer_instance|constructor)|refine xN ?_|refine xK ?_|(apply Kf.mk;(focus kernel_rfl))|refine xM ?_|(apply LkM.s;(focus first|assumption|rfl))|refine xD ?_|(apply Cl.p (hreg);focus repeat' constructor))
      refine xW (hcon) ?_
      rintro _ _ ⟨rfl,w',rfl⟩
      repeat'(first|apply Sp.h|refine Lk.r rfl ?_|refine Rf.mk rfl ?_|apply Bd.mk|refine xN ?_|intro _)
      ·exact PA.lp (D.set i ⟨x.put,x.drop,w',(addF (fgK e.past x.marks) ⟨e.rep,e.num,e.time,uv⟩).2⟩,⟨x.put,x.drop,w',(addF (fgK e.past x.marks) ⟨e.rep,e.num,e.time,uv⟩).2⟩,lg) xE ⟨rfl,by rw [hcell];rfl, .inl ⟨by rw [hcell];assumption,rfl⟩⟩
      ·exact PA.lp (D.set i ⟨x.put,x.drop,w',(addF (fgK e.past x.marks) ⟨e.rep,e.num,e.time,uv⟩).2⟩,⟨x.put,x.drop,w',(addF (fgK e.past x.marks) ⟨e.rep,e.num,e.time,uv⟩).2⟩,true) xE ⟨rfl,by rw [hcell];rfl, .inr ⟨by rw [hcell];assumption,rfl⟩⟩
      ·rw [hbad _ _ hcell (by assumption) (by assumption)]
       exact⟨_,_, .tup (.same (.same (.z))), .inr ⟨by assumption,rfl,rfl⟩⟩
   ·rintro⟨D',x',lg'⟩ ⟨hD',hx',hc⟩
    simp only at hD' hx' hc
    subst hD'
    simp only
    have htk:C.take (i+1)=C.take i ++ [cellF e t (updF a.eff.updates i) g]:=by rw [zK,hq];rfl
    have hdr:l.drop i=g :: l.drop (i+1):=by
     have h9:=List.drop_eq_getElem_cons hin
     rw [(zS.1 hgi).2] at h9
     exact h9
    have hA:(D.set i x').map MgE.g=(C.take (i+1)).map (·.2) ++ l.drop (i+1):=by
     rw [List.map_set,g2,hx',hdr,List.set_append,if_neg (by rw [List.length_map,htl];omega),List.length_map,htl,Nat.sub_self,List.set_cons_zero,htk]
     simp
    have hB:∀p∈C.take (i+1),p.1=0∨p.1=8:=fun p hp=>by
     rw [htk] at hp
     rcases zV.1 hp with h9|h9
     ·exact g3 p h9
     ·rw [zH.1 h9]
      exact hc.imp (·.1) (·.1)
    have hE:lg'=true↔∃p∈C.take (i+1),p.1=8:=by
     rw [htk]
     rcases hc with⟨c1,rfl⟩|⟨c1,rfl⟩
     ·rw [g4]
      constructor
      ·rintro⟨p,hp,h8⟩
       exact⟨p,by simp [hp],h8⟩
      ·rintro⟨p,hp,h8⟩
       rcases zV.1 hp with h9|h9
       ·exact⟨p,h9,h8⟩
       ·rw [zH.1 h9,c1] at h8;cases h8
     ·exact⟨fun _=>⟨_,by simp,c1⟩,fun _=>rfl⟩
    (repeat'(first|(show CA _ _ (Code.region 28 _ _) _ _;apply Stopped.out)|apply Sp.h|fail));any_goals apply Stopped.mk
    apply CA.bunPut (l:=D) (g:=mgeR) (i:=i) (x:=x')
    focus(repeat constructor)
    focus(repeat constructor)
    focus exact hDl
    repeat'(first|apply Sp.h|refine Lk.r rfl ?_|refine Rf.mk rfl ?_|refine xO ?_|fail)
    exact PA.lp (i+1,D.set i x',lg') xE ⟨⟨hin,hA,hB,hE⟩,by simp only;omega⟩
  ·have hie:i=l.length:=by omega
   subst hie
   have hCl:C.length=l.length:=by rw [hC];exact cellsF_len
   rw [←hCl,zL] at g3 g4
   rw [←hCl,zL,hCl,List.drop_length,List.append_nil] at g2
   cases lg with
   | true =>
    have hG:gatherF C=(8,[]):=by rw [gather_end g3,if_pos (g4.1 rfl)]
    rw [hG]
    repeat'(first|apply Sp.h|refine Lk.r rfl ?_|refine Rf.mk rfl ?_|refine xB ?_|refine xN ?_|fail)
    exact⟨_,_, .tup (.same (.same (.z))), .inr ⟨by decide,rfl,rfl⟩⟩
   | false =>
    have hG:gatherF C=(0,C.map (·.2)):=by rw [gather_end g3,if_neg (fun h9=>by have:=g4.2 h9;cases this)]
    rw [hG]
    repeat'(first|apply Sp.h|refine Lk.r rfl ?_|refine Rf.mk rfl ?_|refine xB ?_|refine xN ?_|fail)
    exact⟨_,_, .tup (.same (.same (.z))), .inl ⟨v,D,rfl,rfl,rfl,g2⟩⟩
end Go.Proofs.YtmjllbjfkafhdaaGreatDoor
set_option maxRecDepth 100000
set_option maxHeartbeats 80000000
namespace Go.Proofs.YtmjllbjfkafhdaaGreatDoor
open Go Go.CF
structure NowS where
 clock:List Int
 time:Int
 state:List Int
 merged:List MgS
 places:List Int
def cntF(c:List Int)(e:EvS) : List Int:=c.set e.rep.toNat (max (c[e.rep.toNat]?.getD 0) e.num)
def dltF(m:ModS)(e:EvS) : List (Int×Int):=match m.acts[e.action.toNat]? with
 | some a=>a.eff.delta
 | none=> []
def add1(s:List Int)(p:Int×Int) : List Int:=s.set p.1.toNat (IntKind.i64.wrap ((s[p.1.toNat]?.getD 0)+p.2))
def addD(s:List Int)(d:List (Int×Int)) : List Int:=d.foldl add1 s
def addE(m:ModS)(s:List Int)(e:EvS) : List Int:=if e.kind=0 then addD s (dltF m e) else s
def insS(l:List Int) : Prop:=∀x∈l,-1000000000≤x∧x≤1000000000
noncomputable instance (l:List Int):Decidable (insS l):=zC _
def withP(l:List Int)(n:Int) : List Int:=if n∈l then l else l.filter (· < n) ++ n :: l.filter (n < ·)
def plE(l:List Int)(e:EvS) : List Int:=if 0 < e.place then withP l e.place else l
def LateE(evs:List EvS)(e:EvS) : Prop:=∃x∈evs,HasC e.past x.rep x.num∧e.time≤x.time
noncomputable instance (evs:List EvS) (e:EvS):Decidable (LateE evs e):=zC _
noncomputable def deliverF(m:ModS)(evs:List EvS)(w:NowS)(e:EvS) : Int×NowS :=
 if¬EvV m (w.clock.length:Nat) e then(1,w)
 else if HasC w.clock e.rep e.num then(6,w)
 else if¬Ins e.past w.clock then(9,w)
 else if LateE evs e then(2,w)
 else if e.kind=0∧¬insS (addE m w.state e) then(2,w)
 else if(applyF m w.merged e).1≠0 then((applyF m w.merged e).1,w)
 else(0,⟨cntF w.clock e,max w.time e.time,addE m w.state e,(applyF m w.merged e).2,plE w.places e⟩)
def mg0 : MgS:=⟨false,false,[]⟩
theorem new_p(m:ModS)(hm:LayOK m.sorts m.tables) : CallP Tryz.prog 89 [mdl m] (mgs (List.replicate (mrgF m).length mg0)):=by
 have hc:=cells_p m hm
 have hle:=mrgF_le hm
 refine CallA.conv (a:= .sl 3 (List.replicate (mrgF m).length ()) fun _=> [bl false,bl false, .val (.slice none 0 0)]) (ALe.sl (by simp) fun i x y _ hy=>?_) (CallA.fz (T:=231) (by simp;omega) ?_)
 ·have:y=mg0:=(List.mem_replicate.1 (zM hy)).2
  subst this
  exact .cons (ALe.refl _) (.cons (ALe.refl _) (.cons ALe.nil .nil))
 ·refine CallA.of pg ordZ Tryz.func89 rfl Tryz.ntmps89 Tryz.results89 rfl fun h0 G0 O0=>?_
  repeat'(first|apply Sp.h|refine Lk.r rfl ?_|refine Rf.mk rfl ?_|refine Im.mk fun _=>?_|refine All.mk fun _=>?_|refine xT ?_|refine Ch.l ⟨rfl,rfl⟩ ?_|refine xN ?_|refine Rf.mk ⟨rfl,rfl,rfl⟩ ?_|(apply Jx.r;(focus exact rfl);(focus first|omega|(simp;done)|(simp;omega)))|(apply Cl.p (hc);focus repeat' constructor))
  refine CF.MkS.r (fun _:Unit=> [bl false,bl false, .val (.slice none 0 0)]) () rfl ?_
  repeat'(first|apply Sp.h|refine Lk.r rfl ?_|apply All.mk|refine xN ?_|intro _)
  exact⟨_,_, .one (.same (.z)),_,rfl,rfl⟩
abbrev nl0:AV:= .val (.slice none 0 0)
theorem bit_a(b:Bool) : CallA Tryz.prog 231 [bl b] [] fun r own=>∃v,r= .ow v∧own= [arrR v 3 1 [[it (if b=true then 1 else 0)]] id]:=by
 refine CallA.of pg ordZ Tryz.func231 rfl Tryz.ntmps231 Tryz.results231 rfl fun h0 G0 O0=>?_
 cases b with
 | true =>
  repeat'(first|apply Sp.h|refine Lk.r rfl ?_|refine Rf.mk rfl ?_|apply All.mk|(apply Fk.r;focus repeat' first|infer_instance|constructor)|refine xN ?_|refine Rf.mk ⟨rfl,rfl,rfl⟩ ?_|intro _)
  exact⟨_,_, .one (.same (.z)),_,rfl,rfl⟩
 | false =>
  repeat'(first|apply Sp.h|refine Lk.r rfl ?_|refine Rf.mk rfl ?_|apply All.mk|(apply Fk.r;focus repeat' first|infer_instance|constructor)|refine xN ?_|refine Rf.mk ⟨rfl,rfl,rfl⟩ ?_|intro _)
  exact⟨_,_, .one (.same (.z)),_,rfl,rfl⟩
theorem bit_p(b:Bool) : CallP Tryz.prog 231 [bl b] (ints [if b=true then 1 else 0]) :=
 CallA.fx (bit_a b) fun _ _ ⟨_,e1,e2⟩=>by
  subst e1;subst e2
  exact .sl .here (zB rfl) (.agg (.le (ALe.refl _) .nil) .nil) .nil
def setB(t:TblS)(g:MgS) : Bool:=if t.kind=2 then g.put || decide (0 < g.marks.length) else g.put && !g.drop && decide (g.marks.length=0)
def setV(t:TblS)(g:MgS) : List Int:= [if setB t g=true then 1 else 0]
theorem valuesS_p(t:TblS)(g:MgS)(h:t.kind=2∨t.kind=3) : CallP Tryz.prog 193 [.agg (tblC t), .agg (mgC g)] (ints (setV t g)):=by
 obtain⟨put,drop,l⟩:=g
 rcases h with h|h
 ·have hB:setB t ⟨put,drop,l⟩=(put || decide (0 < l.length)):=if_pos h
  refine CallA.of pg ordZ Tryz.func193 rfl Tryz.ntmps193 Tryz.results193 rfl fun h0 G0 O0=>?_
  cases put with
  | true =>
   repeat'(first|apply Sp.h|refine Lk.r rfl ?_|refine Rf.mk rfl ?_|refine xA ?_|refine All.mk fun _=>?_|refine xT ?_|refine xN ?_|(apply Cl.p (bit_p _);focus repeat' constructor))
   exact Fin.p rfl (congrArg ints (by unfold setV;rw [hB];simp))
  | false =>
   repeat'(first|apply Sp.h|refine Lk.r rfl ?_|refine Rf.mk rfl ?_|refine xA ?_|refine Im.mk fun _=>?_|refine All.mk fun _=>?_|refine xT ?_|refine xN ?_|(apply Cl.p (bit_p _);focus repeat' constructor))
   exact Fin.p rfl (congrArg ints (by unfold setV;rw [hB];simp))
 ·have hB:setB t ⟨put,drop,l⟩=(put && !drop && decide (l.length=0)):=if_neg (by omega)
  refine CallA.of pg ordZ Tryz.func193 rfl Tryz.ntmps193 Tryz.results193 rfl fun h0 G0 O0=>?_
  cases put with
  | true =>
   cases drop with
   | true =>
    repeat'(first|apply Sp.h|refine Lk.r rfl ?_|refine Rf.mk rfl ?_|refine xA ?_|refine xB ?_|refine All.mk fun _=>?_|refine xT ?_|refine xN ?_|(apply Cl.p (bit_p _);focus repeat' constructor))
    exact Fin.p rfl (congrArg ints (by unfold setV;rw [hB];simp))
   | false =>
    repeat'(first|apply Sp.h|refine Lk.r rfl ?_|refine Rf.mk rfl ?_|refine xA ?_|refine xB ?_|refine Im.mk fun _=>?_|refine All.mk fun _=>?_|refine xT ?_|refine xN ?_|(apply Cl.p (bit_p _);focus repeat' constructor))
    exact Fin.p rfl (congrArg ints (by unfold setV;rw [hB];simp))
  | false =>
   repeat'(first|apply Sp.h|refine Lk.r rfl ?_|refine Rf.mk rfl ?_|refine xA ?_|refine xB ?_|refine All.mk fun _=>?_|refine xT ?_|refine xN ?_|(apply Cl.p (bit_p _);focus repeat' constructor))
   exact Fin.p rfl (congrArg ints (by unfold setV;rw [hB];simp))
def tR : TblS:=⟨⟨#[114]⟩,3,[],0,1,1⟩
def k1 : MkS:=⟨0,1,1,0⟩
def k2 : MkS:=⟨1,1,1,0⟩
def k3 : MkS:=⟨0,2,2,0⟩
def L0 : List MgS:= [mg0,mg0]
def L1 : List MgS:= [⟨false,false,[k1]⟩,⟨true,false,[]⟩]
def L2 : List MgS:= [⟨false,false,[k1]⟩,⟨true,false,[k2]⟩]
theorem out_fx{v:Value}{L:List MgE}(hl:L.length≤1000000)(hm:∀x∈L,x.marks.length≤1000000){l l':List AV}{own:List Res}(ht:FX [] l l' own) : FX (outR v L) (.ow v :: l) (mgs (L.map MgE.g) :: l') own:=by
 refine .sl .here (by omega) (.unb .here ?_) ht
 refine FX.rows (o:= []) (r:=mgeR) (f:=mgeC) (g:=mgC) (φ:=MgE.g) L fun x hx o'=>?_
 have:=hm x hx
 exact .le (ALe.refl _) (.le (ALe.refl _) (.sl .here (by omega) (FX.refl _) .nil))
theorem applyOK_p(m:ModS)(l:List MgS)(e:EvS)(F:List MgS)(hm:MOK m)(hF:applyF m l e=(0,F))(hl:F.length≤1000000)(hk:∀g∈F,g.marks.length≤1000000) :
  CallP Tryz.prog 105 [mdl m,mgs l,evA' e] (.tup [mgs F,it 0]):=by
 refine CallA.fx (apply_a m l e hm) ?_
 rw [hF]
 rintro r o (⟨v,L,_,rfl,rfl,hL⟩|⟨h,_⟩)
 ·have hL:L.map MgE.g=F:=hL
  subst hL
  exact .tup (out_fx (by simpa using hl) (fun x hx=>hk x.g (List.mem_map_of_mem hx)) (FX.refl _)) .nil
 ·exact absurd rfl h
theorem out_fx2{v:Value}{L:List MgE}{o rest rest2:List Res}(tk1:Take o (arrR v 231 3 L mgeC) rest)(tk2:Take rest (bunR (L.map mgeR)) rest2)(hl:L.length≤1000000)(hm:∀x∈L,x.marks.length≤1000000){l l':List AV}{own:List Res}(ht:FX rest2 l l' own) : FX o (.ow v :: l) (mgs (L.map MgE.g) :: l') own:=by
 refine .sl tk1 (by omega) (.unb tk2 ?_) ht
 refine FX.rows (o:=rest2) (r:=mgeR) (f:=mgeC) (g:=mgC) (φ:=MgE.g) L fun x hx o'=>?_
 have:=hm x hx
 exact .le (ALe.refl _) (.le (ALe.refl _) (.sl .here (by omega) (FX.refl _) .nil))
theorem addF_len(l:List MkS)(m:MkS) : (addF l m).2.length≤l.length+1:=by
 unfold addF
 split
 ·simp
 ·split
  ·simp
  ·simp [insK];omega
theorem cellF_len{e:EvS}{t:TblS}{u:Option UpS}{g:MgS} : (cellF e t u g).2.marks.length≤g.marks.length+1:=by
 have hf:(fgK e.past g.marks).length≤g.marks.length:=List.length_filter_le _ _
 match u with
 | none=>simp [cellF]
 | some u =>
  simp only [cellF]
  split
  ·exact addF_len _ _
  ·split
   ·simp only;omega
   ·split
    ·simp only;omega
    ·split
     ·simp only
      match hg:g.marks with
      | []=>exact addF_len _ _
      | x :: r=>simp only [lastF];repeat' split <;> simp
     ·split
      ·simp only
       have:=addF_len (fgK e.past g.marks) ⟨e.rep,e.num,e.time,if isReg t.kind then u.2.2 else 0⟩
       omega
      ·simp
theorem applyF_ok{m:ModS}{l:List MgS}{e:EvS}(h:(applyF m l e).1=0) : ValL (mrgF m) l∧EvV m (e.past.length:Nat) e∧(applyF m l e).2.length=l.length∧
  (∀(i:Nat) g,l[i]?=some g→(e.kind=0→updF (usF m e) i=none)→(applyF m l e).2[i]?=some g)∧∀g∈(applyF m l e).2,g.marks.length≤1000000:=by
 have hv:ValL (mrgF m) l∧EvV m (e.past.length:Nat) e:=Classical.byContradiction fun h9=>by
  rw [applyF,if_pos h9] at h
  cases h
 have hmk:∀(i:Nat) g,l[i]?=some g→∃t,(mrgF m)[i]?=some t∧ValG t g:=fun i g hi=>by
  obtain⟨t,ht⟩:=get_of (l:=mrgF m) (i:=i) (by have:=hv.1.1;have:=(zS.1 hi).1;omega)
  exact⟨t,ht,hv.1.2 i t g ht hi⟩
 refine⟨hv.1,hv.2, ?_⟩
 by_cases hk:e.kind=0
 rotate_left
 ·have hF:applyF m l e=(0,l):=by rw [applyF,if_neg (fun h9=>h9 hv),if_pos hk]
  rw [hF]
  refine⟨rfl,fun i g hg _=>hg,fun g hg=>?_⟩
  obtain⟨i,hi⟩:=zO hg
  obtain⟨t,_,h9⟩:=hmk i g hi
  have:=h9.1.2.2.2
  omega
 have hF:applyF m l e=gatherF (cellsF (mrgF m) l (usF m e) e):=by rw [applyF,if_neg (fun h9=>h9 hv),if_neg (fun h9=>h9 hk)]
 rw [hF] at h
 have hG:gatherF (cellsF (mrgF m) l (usF m e) e)=(0,(cellsF (mrgF m) l (usF m e) e).map (·.2)):=by
  unfold gatherF at h ⊢
  cases hf:(cellsF (mrgF m) l (usF m e) e).find? fun p=>decide (p.1≠0∧p.1≠8) with
  | some p =>
   have:=List.find?_some hf
   rw [hf] at h
   simp at this
   exact absurd h this.1
  | none =>
   rw [hf] at h
   simp only at h ⊢
   split at h
   ·cases h
   ·rename_i h9;rw [if_neg h9]
 rw [hF,hG]
 refine⟨by simp [cellsF_len],fun i g hg hu=>?_,fun g hg=>?_⟩
 ·obtain⟨t,ht,_⟩:=hmk i g hg
  rw [zG,cellsF_at ht hg,hu hk]
  rfl
 ·obtain⟨p,hp,rfl⟩:=List.mem_map.1 hg
  obtain⟨i,hi⟩:=zO hp
  have hil:=(zS.1 hi).1
  rw [cellsF_len] at hil
  obtain⟨x,hx⟩:=get_of hil
  obtain⟨t,ht,h9⟩:=hmk i x hx
  rw [cellsF_at ht hx] at hi
  cases hi
  have h1:=cellF_len (e:=e) (t:=t) (u:=updF (usF m e) i) (g:=x)
  have:=h9.1.2.2.2
  omega
/-! ### Searches in numbers -/
theorem indexI_p{g:FuncId}{p:Int→Bool}(hg:∀x,CallP Tryz.prog g [it x] (bl (p x)))(he:en g=true)(l:List Int) :
  CallP Tryz.prog 203 [ints l, .fn g []] (it (idxI p l)):=by
 refine CallA.of pg ordZ Tryz.func203 rfl Tryz.ntmps203 Tryz.results203 rfl fun h0 G0 O0=>?_
 repeat'(first|apply Sp.h|refine Lk.r rfl ?_|refine Rf.mk rfl ?_|apply Im.mk|intro _)
 refine CA.loop (fun i:Nat=>⟨[(0,ints l),(1, .fn g []),(7,it (l.length:Nat)),(8,it i)],[]⟩)
  (fun i=>i≤l.length∧∀j y,j < i→l[j]?=some y→p y=false) (fun i=>l.length - i) 0 xE ⟨zZ _,fun j y h=>by omega⟩ ?_
 rintro i ⟨hi,hj⟩
 by_cases hin:i < l.length
 ·obtain⟨e,hx⟩:=get_of hin
  repeat'(first|apply Sp.h|refine Lk.r rfl ?_|refine Rf.mk rfl ?_|refine xA ?_|(refine Bd.mk ?_ ?_ <;> intro _)|refine xI ?_|refine xN ?_|(apply Rf.mk;(focus assumption))|refine xO ?_|(apply Cl.p (hg e);focus repeat' constructor))
  ·rename_i hp
   exact Fin.p rfl (by rw [idxI,idxN_of hx hp hj,if_pos hin])
  ·rename_i hp
   refine PA.lp (i+1) xE ⟨⟨hin,fun j y h1 h2=>?_⟩,by omega⟩
   by_cases hij:j=i
   ·subst hij;rw [hx] at h2;cases h2;simpa using hp
   ·exact hj j y (by omega) h2
 ·repeat'(first|apply Sp.h|refine Lk.r rfl ?_|refine Rf.mk rfl ?_|refine xB ?_|refine xN ?_|fail)
  exact Fin.p rfl (by rw [idxI,idxN_none (fun x hx=>by obtain⟨j,hx⟩:=zO hx;exact hj j x (by have:=(zS.1 hx).1;omega) hx),if_neg (by omega)])
theorem containsI_p{g:FuncId}{p:Int→Bool}(hg:∀x,CallP Tryz.prog g [it x] (bl (p x)))(he:en g=true)(l:List Int) :
  CallP Tryz.prog 152 [ints l, .fn g []] (bl (decide (idxN p l < l.length))):=by
 refine CallA.of pg ordZ Tryz.func152 rfl Tryz.ntmps152 Tryz.results152 rfl fun h0 G0 O0=>?_
 repeat'(first|apply Sp.h|refine Lk.r rfl ?_|refine Rf.mk rfl ?_|refine xN ?_|(apply Cl.p (indexI_p hg he l);focus repeat' constructor))
 refine Fin.p rfl (vb (zD.2 ?_))
 unfold idxI
 split <;> omega
theorem inside1_p(x:Int) : CallP Tryz.prog 153 [it x] (bl (decide (¬(-1000000000≤x∧x≤1000000000)))):=by
 refine CallA.of pg ordZ Tryz.func153 rfl Tryz.ntmps153 Tryz.results153 rfl fun h0 G0 O0=>?_
 repeat'(first|apply Sp.h|refine Lk.r rfl ?_|refine Rf.mk rfl ?_|refine xA ?_|refine xB ?_|apply Bd.mk|refine xN ?_|intro _)
 all_goals exact Fin.p rfl (vb (by first|exact(zT (by omega)).symm|exact(zF (by omega)).symm|exact zD.2 (by omega)))
theorem inside35_p(l:List Int) : CallP Tryz.prog 86 [ints l] (bl (decide (insS l))):=by
 refine CallA.of pg ordZ Tryz.func86 rfl Tryz.ntmps86 Tryz.results86 rfl fun h0 G0 O0=>?_
 repeat'(first|apply Sp.h|refine Lk.r rfl ?_|refine Rf.mk rfl ?_|refine xN ?_|(apply Cl.p (containsI_p inside1_p rfl l);focus repeat' constructor))
 refine Fin.p rfl (vb (zD.2 ?_))
 rw [idxN_lt]
 constructor
 ·intro h x hx
  exact Classical.byContradiction fun h9=>h ⟨x,hx,zT h9⟩
 ·rintro h ⟨x,hx,h9⟩
  have:=h x hx
  have:=of_decide_eq_true h9
  omega
/-! ### Clones -/
theorem cloneM_a(l:List MgS)(hl:l.length≤1000000)(hm:∀g∈l,g.marks.length≤1000000) :
  CallA Tryz.prog 107 [mgs l] [] fun r own=>∃v L,r= .ow v∧L.map MgE.g=l∧own=outR v L:=by
 have hc:=cloneG_o l (by omega)
 refine CallA.of pg ordZ Tryz.func107 rfl Tryz.ntmps107 Tryz.results107 rfl fun h0 G0 O0=>?_
 repeat'(first|apply Sp.h|refine Lk.r rfl ?_|refine Rf.mk rfl ?_|fail)
 (refine Cl.use (hc) (by repeat'(first|exact Lend.nil|apply Lend.keep|fail)) .nil rfl ?_;rintro _ _ ⟨_,rfl,rfl⟩)
 repeat'(first|apply Sp.h|refine Lk.r rfl ?_|refine Rf.mk rfl ?_|refine xU ?_|fail)
 rename_i v
 apply CA.retype (m:=l.map ogG) (g:=ogC)
 focus(repeat constructor)
 focus exact ogG_map l
 refine CA.bunNil mgeR ?_
 refine CA.loop (fun x:Nat×List MgE=>⟨[(3, .ow v),(8,it (l.length:Nat)),(9,it x.1)],[arrR v 231 3 (x.2.map ogE ++ (l.drop x.1).map ogG) ogC,bunR (x.2.map mgeR)]⟩)
  (fun x=>x.1≤l.length∧x.2.map MgE.g=l.take x.1) (fun x=>l.length - x.1) (0,[]) xE ⟨zZ _,by simp⟩ ?_
 rintro⟨i,D⟩ ⟨hi,hD⟩
 simp only at hi hD
 simp only
 by_cases hin:i < l.length
 ·obtain⟨g,hg⟩:=get_of hin
  have hgm:=hm g (zM hg)
  have hDl:D.length=i:=by have:=congrArg List.length hD;simp at this;omega
  have hdr:(l.drop i).map ogG=ogG g :: (l.drop (i+1)).map ogG:=by
   have h9:=List.drop_eq_getElem_cons hin
   rw [(zS.1 hg).2] at h9
   rw [h9,List.map_cons]
  have hrow:(D.map ogE ++ (l.drop i).map ogG)[i]?=some (g.put,g.drop,mks g.marks):=by
   rw [hdr,zJ (by simp;omega)];simp [hDl,ogG]
  have hcl:=cloneK_o g.marks (by omega)
  repeat'(first|apply Sp.h|refine Lk.r rfl ?_|refine Rf.mk rfl ?_|refine xA ?_|refine xU ?_|refine xI ?_|refine xJ ?_|fail)
  (refine Cl.use (hcl) (by repeat'(first|exact Lend.nil|apply Lend.keep|fail)) .nil rfl ?_;rintro _ _ ⟨_,rfl,rfl⟩)
  (repeat'(first|(show CA _ _ (Code.region 6 _ _) _ _;apply Stopped.out)|apply Sp.h|refine Lk.r rfl ?_|refine Rf.mk rfl ?_|refine xU ?_|refine xI ?_|refine xJ ?_|refine xV ?_|(apply Up.inv;(focus repeat constructor);(focus infer_instance))|fail));any_goals apply Stopped.mk
  rename_i w2
  have hset:(D.map ogE ++ (l.drop i).map ogG).set i (g.put,g.drop, .ow w2)=(D ++ [(MgE.mk g.put g.drop w2 g.marks)]).map ogE ++ (l.drop (i+1)).map ogG:=by
   rw [hdr,List.set_append,if_neg (by simp;omega)]
   simp [hDl,ogE]
  rw [hset]
  apply CA.bunPush (g:=mgeR) (x:=(MgE.mk g.put g.drop w2 g.marks))
  focus(repeat constructor)
  focus(repeat constructor)
  repeat'(first|apply Sp.h|refine Lk.r rfl ?_|refine Rf.mk rfl ?_|refine xO ?_|fail)
  exact PA.lp (i+1,D ++ [(MgE.mk g.put g.drop w2 g.marks)]) xE ⟨⟨hin,by simp only;rw [List.map_append,hD,zK,hg];rfl⟩,by simp only;omega⟩
 ·have hie:i=l.length:=by omega
  subst hie
  rw [zL] at hD
  rw [List.drop_length,List.map_nil,List.append_nil]
  (repeat'(first|(show CA _ _ (Code.region 7 _ _) _ _;apply Stopped.out)|apply Sp.h|refine Lk.r rfl ?_|refine Rf.mk rfl ?_|refine xB ?_|fail));any_goals apply Stopped.mk
  apply CA.retype (m:=D) (g:=mgeC)
  focus(repeat constructor)
  focus exact ogE_map D
  repeat'(first|apply Sp.h|refine Lk.r rfl ?_|refine Rf.mk rfl ?_|refine xN ?_|fail)
  exact⟨_,_, .one (.same (.z)),_,D,rfl,hD,rfl⟩
theorem cloneM_p(l:List MgS)(hl:l.length≤1000000)(hm:∀g∈l,g.marks.length≤1000000) : CallP Tryz.prog 107 [mgs l] (mgs l):=by
 refine CallA.fx (cloneM_a l hl hm) ?_
 rintro r o ⟨v,L,rfl,rfl,rfl⟩
 exact out_fx (by simpa using hl) (fun x hx=>hm x.g (List.mem_map_of_mem hx)) .nil
theorem cloneV_o(l:List EvS)(hl:l.length≤1000000000) : CallO Tryz.prog 157 [evs l] 66 13 l evC:=by
 refine CallA.of pg ordZ Tryz.func157 rfl Tryz.ntmps157 Tryz.results157 rfl fun h0 G0 O0=>?_
 repeat'(first|apply Sp.h|refine Lk.r rfl ?_|refine Rf.mk rfl ?_|apply Bd.mk|refine xP ?_|apply Im.mk|apply All.mk|refine xU ?_|refine Ce.l rfl ?_|(apply Fk.r;focus repeat' first|infer_instance|constructor)|refine xN ?_|refine Rf.mk ⟨rfl,rfl⟩ ?_|refine Rf.mk ⟨rfl,rfl,rfl⟩ ?_|refine Mp.same ?_|intro _)
 ·rename_i b hb hbt
  have hl0:l= []:=Decidable.byContradiction fun h=>by rw [hb h] at hbt;cases hbt
  subst hl0
  exact⟨_,_, .one (.nils (.z)),_,rfl,rfl⟩
 ·repeat'(first|fail)
  exact⟨_,_, .one (.same (.z)),_,rfl,rfl⟩
structure EvE where
 e:EvS
 w:Value
def evQ(e:EvS)(p:AV) : List AV:= [iv e.rep,iv e.num,iv e.time,p,iv e.kind,iv e.action,iv e.gk,iv e.gi,iv e.ge,iv e.ga,iv e.to,iv e.place,iv e.serial]
def eveC(x:EvE) : List AV:=evQ x.e (.ow x.w)
abbrev eveR (x:EvE):Res:=arrR x.w 3 1 x.e.past intC
def oeC(x:EvS×AV) : List AV:=evQ x.1 x.2
instance {e:EvS} {p:AV} : Inv oeC [iv e.rep,iv e.num,iv e.time,p,iv e.kind,iv e.action,iv e.gk,iv e.gi,iv e.ge,iv e.ga,iv e.to,iv e.place,iv e.serial] (e,p):=⟨rfl⟩
def oeE(x:EvE) : EvS×AV:=(x.e, .ow x.w)
def oeG(e:EvS) : EvS×AV:=(e,ints e.past)
theorem oeE_map(l:List EvE) : l.map eveC=(l.map oeE).map oeC:=by rw [List.map_map];rfl
theorem oeG_map(l:List EvS) : (l.map oeG).map oeC=l.map evC:=by rw [List.map_map];rfl
abbrev outE (v:Value) (L:List EvE):List Res:= [arrR v 66 13 L eveC,bunR (L.map eveR)]
theorem outE_fx{v:Value}{L:List EvE}(hl:L.length≤1000000)(hm:∀x∈L,x.e.past.length≤1000000){l l':List AV}{o own:List Res}(ht:FX o l l' own) : FX (outE v L ++ o) (.ow v :: l) (evs (L.map EvE.e) :: l') own:=by
 refine .sl .here (by omega) (.unb .here ?_) ht
 refine FX.rows (o:=o) (r:=eveR) (f:=eveC) (g:=evC) (φ:=EvE.e) L fun x hx o'=>?_
 have:=hm x hx
 exact .le (ALe.refl _) (.le (ALe.refl _) (.le (ALe.refl _) (.sl .here (by omega) (FX.refl _) (FX.refl _))))
theorem cloneEs_a(l:List EvS)(hl:l.length≤1000000)(hm:∀e∈l,e.past.length≤1000000) :
  CallA Tryz.prog 99 [evs l] [] fun r own=>∃v L,r= .ow v∧L.map EvE.e=l∧own=outE v L:=by
 have hc:=cloneV_o l (by omega)
 refine CallA.of pg ordZ Tryz.func99 rfl Tryz.ntmps99 Tryz.results99 rfl fun h0 G0 O0=>?_
 repeat'(first|apply Sp.h|refine Lk.r rfl ?_|refine Rf.mk rfl ?_|fail)
 (refine Cl.use (hc) (by repeat'(first|exact Lend.nil|apply Lend.keep|fail)) .nil rfl ?_;rintro _ _ ⟨_,rfl,rfl⟩)
 repeat'(first|apply Sp.h|refine Lk.r rfl ?_|refine Rf.mk rfl ?_|refine xU ?_|fail)
 rename_i v
 apply CA.retype (m:=l.map oeG) (g:=oeC)
 focus(repeat constructor)
 focus exact oeG_map l
 refine CA.bunNil eveR ?_
 refine CA.loop (fun x:Nat×List EvE=>⟨[(3, .ow v),(8,it (l.length:Nat)),(9,it x.1)],[arrR v 66 13 (x.2.map oeE ++ (l.drop x.1).map oeG) oeC,bunR (x.2.map eveR)]⟩)
  (fun x=>x.1≤l.length∧x.2.map EvE.e=l.take x.1) (fun x=>l.length - x.1) (0,[]) xE ⟨zZ _,by simp⟩ ?_
 rintro⟨i,D⟩ ⟨hi,hD⟩
 simp only at hi hD
 simp only
 by_cases hin:i < l.length
 ·obtain⟨g,hg⟩:=get_of hin
  have hgm:=hm g (zM hg)
  have hDl:D.length=i:=by have:=congrArg List.length hD;simp at this;omega
  have hdr:(l.drop i).map oeG=oeG g :: (l.drop (i+1)).map oeG:=by
   have h9:=List.drop_eq_getElem_cons hin
   rw [(zS.1 hg).2] at h9
   rw [h9,List.map_cons]
  have hrow:(D.map oeE ++ (l.drop i).map oeG)[i]?=some (g,ints g.past):=by
   rw [hdr,zJ (by simp;omega)];simp [hDl,oeG]
  have hcl:=clone_o g.past (by omega)
  repeat'(first|apply Sp.h|refine Lk.r rfl ?_|refine Rf.mk rfl ?_|refine xA ?_|refine xU ?_|refine xI ?_|refine xJ ?_|fail)
  (refine Cl.use (hcl) (by repeat'(first|exact Lend.nil|apply Lend.keep|fail)) .nil rfl ?_;rintro _ _ ⟨_,rfl,rfl⟩)
  (repeat'(first|(show CA _ _ (Code.region 6 _ _) _ _;apply Stopped.out)|apply Sp.h|refine Lk.r rfl ?_|refine Rf.mk rfl ?_|refine xU ?_|refine xI ?_|refine xJ ?_|refine xV ?_|(apply Up.inv;(focus repeat constructor);(focus infer_instance))|fail));any_goals apply Stopped.mk
  rename_i w2
  have hset:(D.map oeE ++ (l.drop i).map oeG).set i (g, .ow w2)=(D ++ [(EvE.mk g w2)]).map oeE ++ (l.drop (i+1)).map oeG:=by
   rw [hdr,List.set_append,if_neg (by simp;omega)]
   simp [hDl,oeE]
  rw [hset]
  apply CA.bunPush (g:=eveR) (x:=(EvE.mk g w2))
  focus(repeat constructor)
  focus(repeat constructor)
  repeat'(first|apply Sp.h|refine Lk.r rfl ?_|refine Rf.mk rfl ?_|refine xO ?_|fail)
  exact PA.lp (i+1,D ++ [(EvE.mk g w2)]) xE ⟨⟨hin,by simp only;rw [List.map_append,hD,zK,hg];rfl⟩,by simp only;omega⟩
 ·have hie:i=l.length:=by omega
  subst hie
  rw [zL] at hD
  rw [List.drop_length,List.map_nil,List.append_nil]
  (repeat'(first|(show CA _ _ (Code.region 7 _ _) _ _;apply Stopped.out)|apply Sp.h|refine Lk.r rfl ?_|refine Rf.mk rfl ?_|refine xB ?_|fail));any_goals apply Stopped.mk
  apply CA.retype (m:=D) (g:=eveC)
  focus(repeat constructor)
  focus exact oeE_map D
  repeat'(first|apply Sp.h|refine Lk.r rfl ?_|refine Rf.mk rfl ?_|refine xN ?_|fail)
  exact⟨_,_, .one (.same (.z)),_,D,rfl,hD,rfl⟩
theorem cloneEs_p(l:List EvS)(hl:l.length≤1000000)(hm:∀e∈l,e.past.length≤1000000) : CallP Tryz.prog 99 [evs l] (evs l):=by
 refine CallA.fx (cloneEs_a l hl hm) ?_
 rintro r o ⟨v,L,rfl,rfl,rfl⟩
 have:=outE_fx (v:=v) (L:=L) (o:= []) (by simpa using hl) (fun x hx=>hm x.e (List.mem_map_of_mem hx)) .nil
 simpa using this
/-! ### The strict cells of a model -/
theorem cells35_p(m:ModS)(hm:LayOK m.sorts m.tables) : CallP Tryz.prog 85 [mdl m] (it (strF m:Nat)):=by
 have hml:=hm.2.2.1
 refine CallA.of pg ordZ Tryz.func85 rfl Tryz.ntmps85 Tryz.results85 rfl fun h0 G0 O0=>?_
 repeat'(first|apply Sp.h|refine Lk.r rfl ?_|refine Rf.mk rfl ?_|apply Im.mk|apply All.mk|refine xT ?_|intro _)
 rename_i b1 _
 refine CA.loop (fun i:Nat=>⟨[(1,pm b1),(3,it (strN m (m.tables.take i):Nat)),(10,tbls m.tables),(11,it (m.tables.length:Nat)),(12,it i)],[mR b1 m]⟩) (fun i=>i≤m.tables.length) (fun i=>m.tables.length - i) 0 xE (zZ _) ?_
 intro i hi
 by_cases hin:i < m.tables.length
 ·obtain⟨t,ht⟩:=get_of hin
  have hc:=(hm.2.2.2 t (zM ht)).1
  have h1:=sz_fit (m:=m) hc
  have hn:=strN_le hm i hi
  have hsu:=strN_succ (m:=m) ht
  by_cases hst:isStrict t.kind
  ·rw [if_pos hst] at hsu
   have h0:t.kind=0∨t.kind=1:=hst
   rcases h0 with h0|h0
   all_goals repeat'(first|apply Sp.h|refine Lk.r rfl ?_|refine Rf.mk rfl ?_|refine xA ?_|refine xB ?_|apply Im.mk|apply All.mk|refine xT ?_|refine xI ?_|refine Ch.l ⟨rfl,rfl⟩ ?_|(apply SetAsk.r;focus repeat' constructor)|refine xN ?_|intro _)
   all_goals rename_i b5 _
   all_goals refine CA.loop (fun k:Nat=>⟨[(1,pm b1),(3,it (strN m (m.tables.take i):Nat)),(5,pm b5),(6,it (prodF m.sorts (t.cols.take k))),(10,tbls m.tables),(11,it (m.tables.length:Nat)),(12,it i),(25,ints t.cols),(26,it (t.cols.length:Nat)),(27,it k)],[mR b1 m,blkR b5 150 (tblC t)]⟩) (fun k=>k≤t.cols.length) (fun k=>t.cols.length - k) 0 xE (zZ _) ?_
   all_goals intro k hk
   all_goals by_cases hkn:k < t.cols.length
   any_goals
    obtain⟨x,hx⟩:=get_of hkn
    obtain⟨j,rfl,y,hy,hy1,hy2⟩:=col_get hc hx
    have hb:=prod_succ hx (show m.sorts[((j:Int)).toNat]?=some y by simpa using hy)
    have hp:=prod_fit hc k
    have hp2:=prod_fit hc (k+1)
    rw [hb] at hp2
    have hj:=(zS.1 hy).1
    repeat'(first|apply Sp.h|refine Lk.r rfl ?_|refine Rf.mk rfl ?_|refine xA ?_|refine xP ?_|refine xT ?_|refine xI ?_|refine xO ?_|fail)
    rw [←hb]
    exact PA.lp (k+1) xE ⟨hkn,by omega⟩
   all_goals
    have hke:k=t.cols.length:=by omega
    subst hke
    simp only [zL]
    rw [h1.1]
    repeat'(first|apply Sp.h|refine Lk.r rfl ?_|refine Rf.mk rfl ?_|refine xB ?_|refine xO ?_|fail)
    rw [show((strN m (m.tables.take i):Nat):Int)+(szF m t:Nat)=(strN m (m.tables.take (i+1)):Nat) by omega]
    exact PA.lp (i+1) xE ⟨hin,by omega⟩
  ·rw [if_neg hst] at hsu
   unfold isStrict at hst
   repeat'(first|apply Sp.h|refine Lk.r rfl ?_|refine Rf.mk rfl ?_|refine xA ?_|refine xB ?_|apply All.mk|refine xT ?_|refine xI ?_|refine Ch.l ⟨rfl,rfl⟩ ?_|(apply SetAsk.r;focus repeat' constructor)|refine xN ?_|refine xO ?_|intro _)
   all_goals rw [show strN m (m.tables.take i)=strN m (m.tables.take (i+1)) by omega]
   all_goals exact PA.lp (i+1) xE ⟨hin,by omega⟩
 ·have hie:i=m.tables.length:=by omega
  subst hie
  simp only [zL]
  repeat'(first|apply Sp.h|refine Lk.r rfl ?_|refine Rf.mk rfl ?_|refine xB ?_|refine xN ?_|fail)
  exact Fin.p rfl rfl
theorem ovF_int : OvF Tryz.prog 214 22 :=
 ⟨_,4,Tryz.func214,by kernel_rfl,by kernel_rfl,by kernel_rfl,by kernel_rfl⟩
instance (priority:=2000) {T:Nat→Ord×(Nat→Cls)} {n:Nat} {rs:Array ResultVar} {K:AV→List Res→Prop} {h0:Heap} {G0 O0:Nat→Prop} {d:Tmp} {x y:Operand} {tys:Array TypeId} {ty:TypeId} {e:EA} {o:List Res} {N:NA} :
  Sp (SA ⟨Tryz.prog,tt,en,pg,T,n,rs,K,h0,G0,O0,⟨none⟩⟩ .loud (some d) (.call { callee:= .value (.func 214),args:=#[x,y],argTypes:=tys }) ty e o N)
   (Lk (evA e x) fun a=>Lk (evA e y) fun b=>Ovl o a b (N ((d, .val (.bool false)) :: e) o)):=⟨fun h=>SA.ovl ovF_int (tS:=22) rfl rfl h⟩
theorem insertI_a(w u:Value)(L:List (List Value))(r:List Value)(i:Nat)(hi:i≤L.length)(hl:L.length≤1000000) :
  CallA Tryz.prog 165 [.ow w,it i, .ow u] [arrR w 3 1 L valR,arrR u 3 1 [r] valR] fun q own=>∃w',q= .ow w'∧own= [arrR w' 3 1 (L.take i ++ r :: L.drop i) valR]:=by
 refine CallA.of pg ord165 Tryz.func165 rfl Tryz.ntmps165 Tryz.results165 rfl fun h0 G0 O0=>?_
 have h1r:([r]:List (List Value)).length=1:=rfl
 by_cases hin:i=L.length
 ·subst hin
  rw [zL,List.drop_length]
  repeat'(first|apply Sp.h|refine Lk.r rfl ?_|refine Rf.mk rfl ?_|refine xA ?_|refine xB ?_|refine xP ?_|apply All.mk|refine xU ?_|refine Ce.r ?_|refine xN ?_|refine Rf.mk ⟨rfl,rfl⟩ ?_|(apply Jx.r;(focus exact rfl);(focus first|omega|(simp;done)|(simp;omega)))|refine Mp.same ?_|intro _)
  exact⟨_,_, .one (.same (.z)),_,rfl,rfl⟩
 have hin:i < L.length:=by omega
 by_cases hc:capV w < L.length+1
 ·repeat'(first|apply Sp.h|refine Lk.r rfl ?_|refine Rf.mk rfl ?_|refine xA ?_|refine xB ?_|apply Im.mk|refine xU ?_|refine Rf.mk ⟨rfl,rfl⟩ ?_|refine Rf.mk ⟨rfl,rfl,rfl⟩ ?_|(apply Jx.r;(focus exact rfl);(focus first|omega|(simp;done)|(simp;omega)))|refine Mp.same ?_|refine xO ?_|intro _)
  refine Jx.r (j:=L.length+ [r].length - i) (by omega) (by omega) ?_
  (repeat'(first|(show CA _ _ (Code.region 12 _ _) _ _;apply Stopped.out)|apply Sp.h|refine Lk.r rfl ?_|refine Rf.mk rfl ?_|refine OpK.r rfl ?_|refine xP ?_|apply All.mk|refine xU ?_|refine Rf.mk ⟨rfl,rfl⟩ ?_|refine Rf.mk ⟨rfl,rfl,rfl⟩ ?_|(apply Jx.r;(focus exact rfl);(focus first|omega|(simp;done)|(simp;omega)))|refine Mp.same ?_|refine xD ?_|refine xO ?_|(apply CpS.part;(focus(repeat constructor;done)))|(apply TkX.r;(focus repeat constructor))|intro _));any_goals apply Stopped.mk
  apply CA.ofX 9
  focus rfl
  focus(repeat constructor)
  focus(simp;omega)
  repeat'(first|apply Sp.h|refine Lk.r rfl ?_|refine Rf.mk rfl ?_|refine xN ?_|fail)
  rw [ins_eq2 hin _ _ _ _ _ _ (by omega) (by omega) (by omega) (by simp;omega) (by omega) h1r]
  exact⟨_,_, .one (.same (.z)),_,rfl,rfl⟩
 ·(repeat'(first|(show CA _ _ (Code.region 13 _ _) _ _;apply Stopped.out)|apply Sp.h|refine Lk.r rfl ?_|refine Rf.mk rfl ?_|refine xB ?_|apply Im.mk|refine xU ?_|(apply Jx.r;(focus exact rfl);(focus first|omega|(simp;done)|(simp;omega)))|refine xO ?_|intro _));any_goals apply Stopped.mk
  apply CA.toX 0
  focus rfl
  focus(repeat constructor)
  intro _
  (repeat'(first|(show CA _ _ (Code.region 16 _ _) _ _;apply Stopped.out)|apply Sp.h|refine Lk.r rfl ?_|refine Rf.mk rfl ?_|refine xB ?_|refine OpK.r rfl ?_|refine xP ?_|refine Rf.mk ⟨rfl,rfl,rfl⟩ ?_|(apply Jx.r;(focus exact rfl);(focus first|omega|(simp;done)|(simp;omega)))|refine xD ?_|refine xO ?_|(apply CpS.part;(focus(repeat constructor;done)))|(apply TkX.r;(focus repeat constructor))|(apply ExX.long;(focus rfl);(focus first|omega|(simp <;> omega));(focus first|omega|(simp <;> omega)))|(apply Ovl.mk';(focus repeat constructor);(focus repeat constructor);(focus decide))|fail));any_goals apply Stopped.mk
  refine CA.sub ⟨[(0, .ow _),(1,it i),(2, .ow u)],[arrR _ 3 1 _ valR,arrR u 3 1 [r] valR]⟩ xE ?_
  repeat'(first|apply Sp.h|refine Lk.r rfl ?_|refine Rf.mk rfl ?_|refine xU ?_|refine xN ?_|refine Rf.mk ⟨rfl,rfl,rfl⟩ ?_|(apply Jx.r;(focus exact rfl);(focus first|omega|(simp;done)|(simp;omega)))|refine Mp.same ?_|(apply CpS.all;(focus(repeat constructor;done)))|fail)
  rw [ins_eq hin _ _ _ (by omega) (by simp;omega) h1r]
  exact⟨_,_, .one (.same (.z)),_,rfl,rfl⟩
theorem isNaNS_p(x:Int) : CallP Tryz.prog 213 [it x] (bl false):=by
 refine CallA.of pg ordZ Tryz.func213 rfl Tryz.ntmps213 Tryz.results213 rfl fun h0 G0 O0=>?_
 repeat'(first|apply Sp.h|refine Lk.r rfl ?_|refine Rf.mk rfl ?_|refine xN ?_|fail)
 all_goals exact Fin.p rfl (vb (by simp))
theorem lessI_p(x y:Int) : CallP Tryz.prog 212 [it x,it y] (bl (decide (x < y))):=by
 refine CallA.of pg ordZ Tryz.func212 rfl Tryz.ntmps212 Tryz.results212 rfl fun h0 G0 O0=>?_
 repeat'(first|apply Sp.h|refine Lk.r rfl ?_|refine Rf.mk rfl ?_|refine xN ?_|(apply Cl.p (isNaN_p _);focus repeat' constructor))
 all_goals exact Fin.p rfl (vb (by first|rfl|(simp;done)|(simp;omega)))
noncomputable def posI(l:List Int)(n:Int) : Nat:=idxN (fun y=>decide (¬y < n)) l
theorem posI_of{l:List Int}{x:Int}{n:Nat}(hn:n≤l.length)(h1:∀(q:Nat) y,q < n→l[q]?=some y→y < x)(h2:∀(q:Nat) y,n≤q→l[q]?=some y→¬y < x) : posI l x=n:=by
 by_cases hnl:n < l.length
 ·obtain⟨y,hy⟩:=get_of hnl
  exact idxN_of hy (zT (h2 n y (Nat.le_refl _) hy)) fun j z hj hz=>zF (fun h=>h (h1 j z hj hz))
 ·have hne:n=l.length:=by omega
  rw [hne]
  exact idxN_none fun y hy=>by
   obtain⟨j,hj⟩:=zO hy
   exact zF (fun h=>h (h1 j y (by have:=(zS.1 hj).1;omega) hj))
abbrev SrtI (l:List Int):Prop:=l.Pairwise (· < ·)
theorem srtI_at{l:List Int}(h:SrtI l){i j:Nat}{a b:Int}(hij:i < j)(ha:l[i]?=some a)(hb:l[j]?=some b) : a < b:=by
 obtain⟨h1,rfl⟩:=zS.1 ha
 obtain⟨h2,rfl⟩:=zS.1 hb
 exact List.pairwise_iff_getElem.1 h i j h1 h2 hij
theorem binI_p(l:List Int)(x:Int)(hs:SrtI l)(hl:l.length≤1000000) :
  CallP Tryz.prog 164 [ints l,it x] (.tup [it (posI l x:Nat),bl (decide (x∈l))]):=by
 have hmem:∀n,posI l x=n→(∀(q:Nat) y,q < n→l[q]?=some y→y < x)→(∀(q:Nat) y,n≤q→l[q]?=some y→¬y < x)→(x∈l↔l[n]?=some x):=fun n _ h1 h2=>by
  constructor
  ·intro h
   obtain⟨j,hj⟩:=zO h
   rcases Nat.lt_trichotomy j n with hjn|hjn|hjn
   ·have:=h1 j x hjn hj;omega
   ·rw [←hjn];exact hj
   ·have hjl:=(zS.1 hj).1
    obtain⟨z,hz⟩:=get_of (l:=l) (i:=n) (by omega)
    have:=srtI_at hs hjn hz hj
    exact absurd this (h2 n z (Nat.le_refl _) hz)
  ·exact zM
 refine CallA.of pg ordZ Tryz.func164 rfl Tryz.ntmps164 Tryz.results164 rfl fun h0 G0 O0=>?_
 repeat'(first|apply Sp.h|refine Lk.r rfl ?_|refine Rf.mk rfl ?_|apply Im.mk|intro _)
 refine CA.loop (fun p:Nat×Nat=>⟨[(0,ints l),(1,it x),(6,it (l.length:Nat)),(7,it p.1),(8,it p.2)],[]⟩)
  (fun p=>p.1≤p.2∧p.2≤l.length∧(∀(q:Nat) y,q < p.1→l[q]?=some y→y < x)∧∀(q:Nat) y,p.2≤q→l[q]?=some y→¬y < x) (fun p=>p.2 - p.1) (0,l.length) xE
  ⟨zZ _,Nat.le_refl _,fun q y h=>absurd h (Nat.not_lt_zero q),fun q y h h'=>by have:=(zS.1 h').1;simp only at h;omega⟩ ?_
 rintro⟨i,j⟩ ⟨h1,h2,h3,h4⟩
 simp only at h1 h2 h3 h4
 simp only
 by_cases hij:i < j
 ·obtain⟨y,hy⟩:=get_of (l:=l) (i:=(i+j) / 2) (by omega)
  have e1:((i:Int)+(j:Int)) / 2=(((i+j) / 2:Nat):Int):=by omega
  have hle:=lessI_p y x
  by_cases hyx:y < x
  ·repeat'(first|apply Sp.h|refine Lk.r rfl ?_|refine Rf.mk rfl ?_|refine xA ?_|refine xI ?_|refine xO ?_|(apply Cvk.i64;(focus rfl);(focus omega))|(apply Cvk.u64;(focus rfl);(focus omega))|(apply Cl.p (hle);focus repeat' constructor))
   exact PA.lp ((i+j) / 2+1,j) xE ⟨⟨by simp only;omega,h2,fun q z hq hz=>by
    simp only at hq
    by_cases hqe:q=(i+j) / 2
    ·subst hqe;rw [hy] at hz;cases hz;exact hyx
    ·have:=srtI_at hs (show q < (i+j) / 2 by omega) hz hy;omega,h4⟩,by simp only;omega⟩
  ·repeat'(first|apply Sp.h|refine Lk.r rfl ?_|refine Rf.mk rfl ?_|refine xA ?_|refine xB ?_|refine xI ?_|refine xO ?_|(apply Cvk.i64;(focus rfl);(focus omega))|(apply Cvk.u64;(focus rfl);(focus omega))|(apply Cl.p (hle);focus repeat' constructor))
   exact PA.lp (i,(i+j) / 2) xE ⟨⟨by simp only;omega,by simp only;omega,h3,fun q z hq hz h=>by
    simp only at hq
    by_cases hqe:q=(i+j) / 2
    ·subst hqe;rw [hy] at hz;cases hz;exact hyx h
    ·have:=srtI_at hs (show(i+j) / 2 < q by omega) hy hz;omega⟩,by simp only;omega⟩
 ·have hije:i=j:=by omega
  subst hije
  have hpos:=posI_of h2 h3 h4
  have hm:=hmem i hpos h3 h4
  rw [hpos]
  by_cases hin:i < l.length
  ·obtain⟨y,hy⟩:=get_of hin
   have hme:x∈l↔y=x:=hm.trans (by rw [hy];simp)
   rw [show decide (x∈l)=decide (y=x) from zD.2 hme]
   repeat'(first|apply Sp.h|refine Lk.r rfl ?_|refine Rf.mk rfl ?_|refine xA ?_|refine xB ?_|(refine Bd.mk ?_ ?_ <;> intro _)|refine xI ?_|refine xN ?_|(apply Cl.p (isNaNS_p _);focus repeat' constructor))
   all_goals exact Fin.p rfl (by first|rw [zT (by first|rfl|assumption)] | rw [zF (by assumption)])
  ·have:decide (x∈l)=false:=zF (fun h=>by have:=(zS.1 (hm.1 h)).1;omega)
   rw [this]
   repeat'(first|apply Sp.h|refine Lk.r rfl ?_|refine Rf.mk rfl ?_|refine xB ?_|refine xN ?_|(apply Cl.p (isNaNS_p _);(focus repeat'(first|fail))))
   all_goals exact Fin.p rfl rfl
def rowI(x:Int) : List Value:= [.int .i64 x]
theorem rowI_map(l:List Int) : (l.map rowI).map valR=l.map intC:=by rw [List.map_map];rfl
theorem with_eq{l:List Int}{n:Int}(hs:SrtI l)(hn:n ∉ l) : withP l n=l.take (posI l n) ++ n :: l.drop (posI l n):=by
 rw [withP,if_neg hn]
 have key:∀l:List Int,SrtI l→n ∉ l→l.filter (· < n)=l.take (posI l n)∧l.filter (n < ·)=l.drop (posI l n):=by
  intro l
  induction l with
  | nil=>intro _ _;exact⟨rfl,rfl⟩
  | cons a l ih =>
   intro hs hn
   obtain⟨s1,s2⟩:=List.pairwise_cons.1 hs
   obtain⟨i1,i2⟩:=ih s2 (fun h=>hn (List.mem_cons_of_mem _ h))
   by_cases ha:a < n
   ·have hp:posI (a :: l) n=posI l n+1:=by simp [posI,idxN,ha]
    rw [hp,List.take_succ_cons,List.drop_succ_cons,List.filter_cons_of_pos (by simpa using ha),List.filter_cons_of_neg (by simp;omega),i1,i2]
    exact⟨rfl,rfl⟩
   ·have hp:posI (a :: l) n=0:=by simp [posI,idxN,ha]
    have hne:a≠n:=fun e=>hn (e▸List.mem_cons_self)
    rw [hp,List.take_zero,List.drop_zero]
    refine⟨List.filter_eq_nil_iff.2 fun y hy=>?_,List.filter_eq_self.2 fun y hy=>?_⟩
    ·rcases List.mem_cons.1 hy with rfl|hy
     ·simp;omega
     ·have:=s1 y hy;simp;omega
    ·rcases List.mem_cons.1 hy with rfl|hy
     ·simp;omega
     ·have:=s1 y hy;simp;omega
 obtain⟨k1,k2⟩:=key l hs hn
 rw [k1,k2]
theorem insertN_a(w u:Value)(l:List Int)(n:Int)(i:Nat)(hi:i≤l.length)(hl:l.length≤1000000) :
  CallA Tryz.prog 165 [.ow w,it i, .ow u] [arrR w 3 1 l intC,arrR u 3 1 [[it n]] id] fun q own=>∃w',q= .ow w'∧own= [arrR w' 3 1 (l.take i ++ n :: l.drop i) intC]:=by
 have h:=insertI_a w u (l.map rowI) (rowI n) i (by simpa using hi) (by simpa using hl)
 rw [arrR_eq (l:=l.map rowI) (f:=valR) (m:=l) (g:=intC) (rowI_map l),arrR_eq (l:= [rowI n]) (f:=valR) (m:= [[it n]]) (g:=id) rfl] at h
 refine h.mono ?_
 rintro _ _ ⟨w',rfl,rfl⟩
 refine⟨w',rfl, ?_⟩
 rw [show(l.map rowI).take i ++ rowI n :: (l.map rowI).drop i=(l.take i ++ n :: l.drop i).map rowI by simp]
 rw [arrR_eq (rowI_map _)]
theorem with_p(l:List Int)(n:Int)(hs:SrtI l)(hl:l.length≤100000) : CallP Tryz.prog 106 [ints l,it n] (ints (withP l n)):=by
 have hb:=binI_p l n hs (by omega)
 have hc:=clone_o l (by omega)
 by_cases hn:n∈l
 ·rw [show withP l n=l from if_pos hn]
  rw [zT hn] at hb
  refine CallA.of pg ordZ Tryz.func106 rfl Tryz.ntmps106 Tryz.results106 rfl fun h0 G0 O0=>?_
  repeat'(first|apply Sp.h|refine Lk.r rfl ?_|refine Rf.mk rfl ?_|refine xN ?_|(apply Cl.p (hb);focus repeat' constructor))
  exact Fin.p rfl rfl
 ·have hpl:posI l n≤l.length:=idxN_le _ _
  rw [zF hn] at hb
  rw [with_eq hs hn]
  refine CallA.fz (T:=3) (by simp;omega) ?_
  refine CallA.of pg ordZ Tryz.func106 rfl Tryz.ntmps106 Tryz.results106 rfl fun h0 G0 O0=>?_
  repeat'(first|apply Sp.h|refine Lk.r rfl ?_|refine Rf.mk rfl ?_|(apply Cl.p (hb);focus repeat' constructor))
  (refine Cl.use (hc) (by repeat'(first|exact Lend.nil|apply Lend.keep|fail)) .nil rfl ?_;rintro _ _ ⟨_,rfl,rfl⟩)
  repeat'(first|apply Sp.h|refine Lk.r rfl ?_|refine Rf.mk rfl ?_|apply All.mk|(apply Fk.r;focus repeat' first|infer_instance|constructor)|refine Rf.mk ⟨rfl,rfl,rfl⟩ ?_|intro _)
  rename_i w u
  have hi:=insertN_a w u l n (posI l n) hpl (by omega)
  refine xW (hi) ?_
  rintro _ _ ⟨w',rfl,rfl⟩
  repeat'(first|apply Sp.h|refine Lk.r rfl ?_|refine xN ?_|fail)
  exact⟨_,_, .one (.same (.z)),_,rfl,rfl⟩
abbrev basC (b:NowS):List AV:= [ints b.clock,it b.time,ints b.state,mgs b.merged,nl0,nl0,ints b.places]
abbrev basA (b:NowS):AV:= .agg (basC b)
abbrev stoC (m:ModS) (b:NowS) (v:Value) (w:NowS):List AV:= [ints m.sorts,tbls m.tables, .sl 1 m.families strC, .sl 6 m.cons cnsC, .sl 3 m.ops opC, .sl 5 m.acts actC, .sl 3 m.hides updC,ints b.clock,it b.time,ints b.state,mgs b.merged,nl0,nl0,ints b.places, .ow v,ints w.clock,it w.time,ints w.state,mgs w.merged,ints w.places]
abbrev stoR (p:Nat) (m:ModS) (b:NowS) (v:Value) (w:NowS):Res:=blkR p 133 (stoC m b v w)
abbrev stpC (s:Nat) (e:EvS) (w:NowS):List AV:= [pm s,iv e.rep,iv e.num,iv e.time,ints e.past,iv e.kind,iv e.action,iv e.gk,iv e.gi,iv e.ge,iv e.ga,iv e.to,iv e.place,iv e.serial,ints w.clock,it w.time,ints w.state,mgs w.merged,ints w.places]
abbrev stpR (p s:Nat) (e:EvS) (w:NowS):Res:=blkR p 161 (stpC s e w)
theorem name35_p(e:EvS) : CallP Tryz.prog 92 [evA' e] (dotC e.rep e.num):=by
 refine CallA.of pg ordZ Tryz.func92 rfl Tryz.ntmps92 Tryz.results92 rfl fun h0 G0 O0=>?_
 repeat'(first|apply Sp.h|refine Lk.r rfl ?_|refine Rf.mk rfl ?_|apply All.mk|refine xT ?_|(apply SetAsk.r;focus repeat' constructor)|(apply Fk.r;focus repeat' first|infer_instance|constructor)|refine xN ?_|intro _)
 exact Fin.p rfl rfl
theorem count_a(x s:Nat)(e:EvS)(w:NowS)(h0:0≤e.rep)(h1:e.rep.toNat < w.clock.length)(hl:w.clock.length≤5) :
  CallA Tryz.prog 94 [pm x] [stpR x s e w] fun r own=>r=it 0∧own= [stpR x s e { w with clock:=cntF w.clock e }]:=by
 obtain⟨y,hy⟩:=get_of h1
 have hc:=clone_o w.clock (by omega)
 have hcnt:cntF w.clock e=w.clock.set e.rep.toNat (max y e.num):=by rw [cntF,hy];rfl
 rw [hcnt]
 refine CallA.of pg ord94 Tryz.func94 rfl Tryz.ntmps94 Tryz.results94 rfl fun h0 G0 O0=>?_
 repeat'(first|apply Sp.h|refine Lk.r rfl ?_|refine Rf.mk rfl ?_|refine xT ?_|fail)
 (refine Cl.use (hc) (by repeat'(first|exact Lend.nil|apply Lend.keep|fail)) .nil rfl ?_;rintro _ _ ⟨_,rfl,rfl⟩)
 (repeat'(first|(show CA _ _ (Code.region 3 _ _) _ _;apply Stopped.out)|apply Sp.h|refine Lk.r rfl ?_|refine Rf.mk rfl ?_|refine OpK.r rfl ?_|refine xU ?_|refine xT ?_|(apply Ix.r;(focus assumption);(focus omega))|refine xJ ?_|refine xV ?_|refine Up.r rfl ?_|refine xD ?_|fail));any_goals apply Stopped.mk
 (apply CA.own;(focus(apply OX.blk (b:=x);(focus repeat constructor);(focus(repeat'(first|exact FX.nil|(apply FX.s1;(focus repeat constructor);(focus first|omega|(simp;done)|(simp;omega)))|apply FX.k)));(focus repeat constructor))))
 repeat'(first|apply Sp.h|refine Lk.r rfl ?_|refine Rf.mk rfl ?_|refine xN ?_|fail)
 exact⟨_,_, .one (.same (.z)),rfl,rfl⟩
theorem order_a(x s:Nat)(m:ModS)(b:NowS)(v:Value)(evs':List EvS)(wn:NowS)(e:EvS)(w:NowS)(hl:evs'.length≤1000000) :
  CallA Tryz.prog 95 [pm x] [stpR x s e w,stoR s m b v wn,arrR v 66 13 evs' evC] fun r own=>(LateE evs' e∧r=it 2∧own= [stoR s m b v wn,arrR v 66 13 evs' evC])∨(¬LateE evs' e∧r=it 0∧own= [stpR x s e { w with time:=max w.time e.time },stoR s m b v wn,arrR v 66 13 evs' evC]):=by
 refine CallA.of pg ord95 Tryz.func95 rfl Tryz.ntmps95 Tryz.results95 rfl fun h0 G0 O0=>?_
 repeat'(first|apply Sp.h|refine Lk.r rfl ?_|refine Rf.mk rfl ?_|refine xU ?_|refine xT ?_|fail)
 refine CA.loop (fun i:Nat=>⟨[(0,pm x),(11, .ow v),(12,it (evs'.length:Nat)),(13,it i)],[stpR x s e w,stoR s m b v wn,arrR v 66 13 evs' evC]⟩) (fun i=>i≤evs'.length∧∀y∈evs'.take i,¬(HasC e.past y.rep y.num∧e.time≤y.time)) (fun i=>evs'.length - i) 0 xE ⟨zZ _,by simp⟩ ?_
 rintro i ⟨hi,ha⟩
 by_cases hin:i < evs'.length
 ·obtain⟨y,hy⟩:=get_of hin
  have h1:=name35_p y
  have h2:=hasC_p e.past y.rep y.num
  by_cases hh:HasC e.past y.rep y.num
  ·by_cases ht:e.time≤y.time
   ·repeat'(first|apply Sp.h|refine Lk.r rfl ?_|refine Rf.mk rfl ?_|refine xA ?_|refine OpK.r rfl ?_|refine All.mk fun _=>?_|refine xU ?_|refine xT ?_|refine xI ?_|refine xJ ?_|refine Ch.l ⟨rfl,rfl⟩ ?_|(apply SetAsk.r;focus repeat' constructor)|refine xN ?_|refine xD ?_|(apply Cl.p (h1);focus(repeat' constructor);done)|(apply Cl.p (h2);focus(repeat' constructor);done))
    all_goals exact⟨_,_, .one (.same (.z)), .inl ⟨⟨y,zM hy,hh,ht⟩,rfl,rfl⟩⟩
   ·repeat'(first|apply Sp.h|refine Lk.r rfl ?_|refine Rf.mk rfl ?_|refine xA ?_|refine xB ?_|refine OpK.r rfl ?_|refine All.mk fun _=>?_|refine xU ?_|refine xT ?_|refine xI ?_|refine xJ ?_|refine Ch.l ⟨rfl,rfl⟩ ?_|(apply SetAsk.r;focus repeat' constructor)|refine xN ?_|refine xD ?_|refine xO ?_|(apply Cl.p (h1);focus(repeat' constructor);done)|(apply Cl.p (h2);focus(repeat' constructor);done))
    all_goals exact PA.lp (i+1) xE ⟨⟨hin,all_succ hy ha (fun h=>ht h.2)⟩,by omega⟩
  ·repeat'(first|apply Sp.h|refine Lk.r rfl ?_|refine Rf.mk rfl ?_|refine xA ?_|refine xB ?_|refine OpK.r rfl ?_|refine All.mk fun _=>?_|refine xU ?_|refine xT ?_|refine xI ?_|refine xJ ?_|refine Ch.l ⟨rfl,rfl⟩ ?_|(apply SetAsk.r;focus repeat' constructor)|refine xN ?_|refine xD ?_|refine xO ?_|(apply Cl.p (h1);focus(repeat' constructor);done)|(apply Cl.p (h2);focus(repeat' constructor);done))
   all_goals exact PA.lp (i+1) xE ⟨⟨hin,all_succ hy ha (fun h=>hh h.1)⟩,by omega⟩
 ·have hie:i=evs'.length:=by omega
  subst hie
  rw [zL] at ha
  repeat'(first|apply Sp.h|refine Lk.r rfl ?_|refine Rf.mk rfl ?_|refine xB ?_|refine OpK.r rfl ?_|refine xT ?_|refine xV ?_|refine xN ?_|refine xD ?_|fail)
  exact⟨_,_, .one (.same (.z)), .inr ⟨fun⟨y,hy,h⟩=>ha y hy h,rfl,rfl⟩⟩
theorem dltF_at{m:ModS}{e:EvS}{a:ActS}(h:m.acts[e.action.toNat]?=some a) : dltF m e=a.eff.delta:=by rw [dltF,h]
theorem addD_succ{s:List Int}{d:List (Int×Int)}{i:Nat}{p:Int×Int}(h:d[i]?=some p) : addD s (d.take (i+1))=add1 (addD s (d.take i)) p:=by
 rw [zK,h,addD,List.foldl_append];rfl
theorem addD_length(d:List (Int×Int)) :∀s:List Int,(addD s d).length=s.length:=by
 induction d with
 | nil=>intro s;rfl
 | cons p d ih=>intro s;rw [addD,List.foldl_cons];exact(ih _).trans (by simp [add1])
theorem sadd_a(x s:Nat)(m:ModS)(b:NowS)(v:Value)(wn:NowS)(e:EvS)(w:NowS)(hm:MOK m)(hst:w.state.length=strF m)(hev:e.kind=0→0≤e.action∧e.action < (m.acts.length:Nat)) :
  CallA Tryz.prog 96 [pm x] [stpR x s e w,stoR s m b v wn] fun r own=>(e.kind=0∧¬insS (addE m w.state e)∧r=it 2∧own= [stoR s m b v wn])∨(¬(e.kind=0∧¬insS (addE m w.state e))∧r=it 0∧own= [stpR x s e { w with state:=addE m w.state e },stoR s m b v wn]):=by
 by_cases hk:e.kind=0
 ·obtain⟨h1,h2⟩:=hev hk
  obtain⟨a,ha⟩:=get_of (l:=m.acts) (i:=e.action.toNat) (by omega)
  have hd:=dltF_at ha
  have heo:=hm.eff a (zM ha)
  have hsl:=hm.str
  have hadd:addE m w.state e=addD w.state a.eff.delta:=by rw [addE,if_pos hk,hd]
  rw [hadd]
  have hc:=clone_o w.state (by omega)
  have hin:=inside35_p (addD w.state a.eff.delta)
  refine CallA.of pg ord96 Tryz.func96 rfl Tryz.ntmps96 Tryz.results96 rfl fun h0 G0 O0=>?_
  repeat'(first|apply Sp.h|refine Lk.r rfl ?_|refine Rf.mk rfl ?_|refine xA ?_|refine xT ?_|fail)
  (refine Cl.use (hc) (by repeat'(first|exact Lend.nil|apply Lend.keep|fail)) .nil rfl ?_;rintro _ _ ⟨_,rfl,rfl⟩)
  repeat'(first|apply Sp.h|refine Lk.r rfl ?_|refine Rf.mk rfl ?_|refine OpK.r rfl ?_|apply Im.mk|refine xT ?_|(apply Ix.r;(focus assumption);(focus omega))|refine xV ?_|refine xD ?_|intro _)
  rename_i u _
  refine CA.loop (fun i:Nat=>⟨[(0,pm x),(37,terms a.eff.delta),(38,it (a.eff.delta.length:Nat)),(39,it i)],[arrR u 3 1 (addD w.state (a.eff.delta.take i)) intC,blkR x 161 [pm s,iv e.rep,iv e.num,iv e.time,ints e.past,iv e.kind,iv e.action,iv e.gk,iv e.gi,iv e.ge,iv e.ga,iv e.to,iv e.place,iv e.serial,ints w.clock,it w.time, .ow u,mgs w.merged,ints w.places],stoR s m b v wn]⟩) (fun i=>i≤a.eff.delta.length) (fun i=>a.eff.delta.length - i) 0 xE (zZ _) ?_
  intro i hi
  have hlen:=addD_length (a.eff.delta.take i) w.state
  by_cases hil:i < a.eff.delta.length
  ·obtain⟨p,hp⟩:=get_of hil
   obtain⟨p1,p2⟩:=heo.d p (zM hp)
   obtain⟨z,hz⟩:=get_of (l:=addD w.state (a.eff.delta.take i)) (i:=p.1.toNat) (by omega)
   have hs:=addD_succ (s:=w.state) hp
   rw [show add1 (addD w.state (a.eff.delta.take i)) p=(addD w.state (a.eff.delta.take i)).set p.1.toNat (IntKind.i64.wrap (z+p.2)) by rw [add1,hz];rfl] at hs
   repeat'(first|apply Sp.h|refine Lk.r rfl ?_|refine Rf.mk rfl ?_|refine xA ?_|refine OpK.r rfl ?_|apply All.mk|refine xU ?_|refine xT ?_|refine xI ?_|(apply Ix.r;(focus assumption);(focus omega))|refine xJ ?_|refine Ch.l ⟨rfl,rfl⟩ ?_|(apply SetAsk.r;focus repeat' constructor)|refine xN ?_|refine xD ?_|intro _)
   refine⟨?_⟩
   repeat'(first|apply Sp.h|refine Lk.r rfl ?_|refine Rf.mk rfl ?_|refine OpK.r rfl ?_|refine xU ?_|(apply Ix.r;(focus assumption);(focus omega))|refine xJ ?_|refine xV ?_|refine Up.r rfl ?_|refine xO ?_|fail)
   rw [←hs]
   exact PA.lp (i+1) xE ⟨hil,by omega⟩
  ·have hie:i=a.eff.delta.length:=by omega
   subst hie
   rw [zL] at hlen ⊢
   by_cases hS:insS (addD w.state a.eff.delta)
   ·rw [zT hS] at hin
    repeat'(first|apply Sp.h|refine Lk.r rfl ?_|refine Rf.mk rfl ?_|refine xB ?_|refine xT ?_|fail)
    (apply Cl.lend (hin);(focus repeat'(first|exact Lend.nil|(apply Lend.lend;(focus repeat constructor);(focus first|omega|(simp;omega)))|fail)))
    (repeat'(first|(show CA _ _ (Code.region 11 _ _) _ _;apply Stopped.out)|apply Sp.h|refine Lk.r rfl ?_|refine xA ?_|fail));any_goals apply Stopped.mk
    (apply CA.own;(focus(apply OX.blk (b:=x);(focus repeat constructor);(focus(repeat'(first|exact FX.nil|(apply FX.s1;(focus repeat constructor);(focus first|omega|(simp;done)|(simp;omega)))|apply FX.k)));(focus repeat constructor))))
    repeat'(first|apply Sp.h|refine Lk.r rfl ?_|refine Rf.mk rfl ?_|refine xN ?_|fail)
    exact⟨_,_, .one (.same (.z)), .inr ⟨fun h=>h.2 hS,rfl,rfl⟩⟩
   ·rw [zF hS] at hin
    repeat'(first|apply Sp.h|refine Lk.r rfl ?_|refine Rf.mk rfl ?_|refine xB ?_|refine xT ?_|fail)
    (apply Cl.lend (hin);(focus repeat'(first|exact Lend.nil|(apply Lend.lend;(focus repeat constructor);(focus first|omega|(simp;omega)))|fail)))
    repeat'(first|apply Sp.h|refine Lk.r rfl ?_|refine Rf.mk rfl ?_|refine xB ?_|refine xN ?_|fail)
    exact⟨_,_, .one (.same (.z)), .inl ⟨hk,hS,rfl,rfl⟩⟩
 ·have hadd:addE m w.state e=w.state:=if_neg hk
  rw [hadd]
  refine CallA.of pg ord96 Tryz.func96 rfl Tryz.ntmps96 Tryz.results96 rfl fun h0 G0 O0=>?_
  repeat'(first|apply Sp.h|refine Lk.r rfl ?_|refine Rf.mk rfl ?_|refine xB ?_|refine xT ?_|refine xN ?_|fail)
  exact⟨_,_, .one (.same (.z)), .inr ⟨fun h=>hk h.1,rfl,rfl⟩⟩
theorem applyT_p(m:ModS)(l:List MgS)(e:EvS)(hm:MOK m) : CallP Tryz.prog 105 [mdl m,mgs l,evA' e] (.tup [mgs (applyF m l e).2,it (applyF m l e).1]):=by
 by_cases h0:(applyF m l e).1=0
 ·obtain⟨h1,_,h3,_,h5⟩:=applyF_ok h0
  have:=h1.1
  have:=hm.mrg
  have hF:applyF m l e=(0,(applyF m l e).2):=by rw [←h0]
  rw [h0]
  exact applyOK_p m l e _ hm hF (by omega) h5
 ·refine CallA.fx (apply_a m l e hm) ?_
  have h2:(applyF m l e).2= []:=by
   unfold applyF at h0 ⊢
   split
   ·rfl
   ·rename_i h1
    rw [if_neg h1] at h0
    split
    ·rename_i h2;rw [if_pos h2] at h0;exact absurd rfl h0
    ·rename_i h2
     rw [if_neg h2] at h0
     unfold gatherF at h0 ⊢
     split
     ·rfl
     ·rename_i h3
      rw [h3] at h0
      simp only at h0
      split
      ·rfl
      ·rename_i h4;rw [if_neg h4] at h0;exact absurd rfl h0
  rw [h2]
  rintro r o (⟨v,L,h,_⟩|⟨_,rfl,rfl⟩)
  ·exact absurd h h0
  ·exact .tup (FX.kn (FX.refl _)) .nil
theorem update_a(x s:Nat)(m:ModS)(b:NowS)(v:Value)(wn:NowS)(e:EvS)(w:NowS)(hm:MOK m) :
  CallA Tryz.prog 97 [pm x] [stpR x s e w,stoR s m b v wn] fun r own=>r=it (applyF m w.merged e).1∧own= [stpR x s e { w with merged:=(applyF m w.merged e).2 },stoR s m b v wn]:=by
 have ha:=applyT_p m w.merged e hm
 refine CallA.of pg ord97 Tryz.func97 rfl Tryz.ntmps97 Tryz.results97 rfl fun h0 G0 O0=>?_
 repeat'(first|apply Sp.h|refine Lk.r rfl ?_|refine Rf.mk rfl ?_|refine OpK.r rfl ?_|refine xT ?_|refine Ch.r ?_|refine xV ?_|refine xN ?_|refine xD ?_|(apply Cl.p (ha);focus repeat' constructor))
 exact⟨_,_, .one (.same (.z)),rfl,rfl⟩
theorem place_a(x s:Nat)(e:EvS)(w:NowS)(hp:SrtI w.places)(hl:w.places.length≤100000) :
  CallA Tryz.prog 98 [pm x] [stpR x s e w] fun r own=>r=it 0∧own= [stpR x s e { w with places:=plE w.places e }]:=by
 have hw:=with_p w.places e.place hp hl
 by_cases h:0 < e.place
 ·rw [show plE w.places e=withP w.places e.place from if_pos h]
  refine CallA.of pg ord98 Tryz.func98 rfl Tryz.ntmps98 Tryz.results98 rfl fun h0 G0 O0=>?_
  repeat'(first|apply Sp.h|refine Lk.r rfl ?_|refine Rf.mk rfl ?_|refine xA ?_|refine OpK.r rfl ?_|refine xT ?_|refine xV ?_|refine xN ?_|refine xD ?_|(apply Cl.p (hw);focus repeat' constructor))
  exact⟨_,_, .one (.same (.z)),rfl,rfl⟩
 ·rw [show plE w.places e=w.places from if_neg h]
  refine CallA.of pg ord98 Tryz.func98 rfl Tryz.ntmps98 Tryz.results98 rfl fun h0 G0 O0=>?_
  repeat'(first|apply Sp.h|refine Lk.r rfl ?_|refine Rf.mk rfl ?_|refine xB ?_|refine xT ?_|refine xN ?_|(apply Cl.p (hw);(focus repeat'(first|fail))))
  exact⟨_,_, .one (.same (.z)),rfl,rfl⟩
theorem svalid_p(s:Nat)(m:ModS)(b:NowS)(v:Value)(w:NowS)(e:EvS) :
  CallA Tryz.prog 90 [pm s,evA' e] [stoR s m b v w] fun r own=>r=bl (decide (EvV m (w.clock.length:Nat) e))∧own= [stoR s m b v w]:=by
 have hv:=evalid_p m (w.clock.length:Nat) e
 refine CallA.of pg ord90 Tryz.func90 rfl Tryz.ntmps90 Tryz.results90 rfl fun h0 G0 O0=>?_
 repeat'(first|apply Sp.h|refine Lk.r rfl ?_|refine Rf.mk rfl ?_|refine OpK.r rfl ?_|refine Im.mk fun _=>?_|refine All.mk fun _=>?_|refine xT ?_|refine Ch.l ⟨rfl,rfl⟩ ?_|refine Ch.r ?_|refine xN ?_|refine xD ?_|(apply Cl.p (hv);focus repeat' constructor))
 exact⟨_,_, .one (.same (.z)),rfl,rfl⟩
end Go.Proofs.YtmjllbjfkafhdaaGreatDoor
namespace Go.CF
open Go
def AV.fb(f:FuncId)(bs:List AV) : AV:=⟨fun h G u=>∃vs,u= .func (.func f) vs.toArray #[]∧RepT h G vs bs,by rintro h h' G v x ⟨vs,e,r⟩;exact⟨vs,e,r.stp x⟩,by rintro h G G' v x ⟨vs,e,r⟩;exact⟨vs,e,r.mono x⟩⟩
section
variable {Γ:Cx} {k:List KI} {e:EA} {o:List Res} {N:NA} {c:Cls} {d:Tmp} {ty:TypeId} {x y:Operand}
instance {f:FuncId} {bs:List AV} : OneA (.fb f bs):=⟨by rintro h G u ⟨vs,rfl,_⟩;rfl⟩
instance {f:FuncId} : Sp (SA Γ c (some d) (.makeFunc (.func f) #[x] #[]) ty e o N) (Lk (evAs e [x]) fun cs=>N ((d, .fb f cs) :: e) o):=⟨fun⟨cs,hcs,hn⟩=>⟨fun env hp G Os c=>by
 obtain⟨vs,h1,h2⟩:=c.gets hcs
 exact St.makeFunc (l2:= []) h1 rfl (CN.mk (c.put d (a:= .fb f cs) ⟨vs,rfl,h2⟩) hn)⟩⟩
instance {f:FuncId} {cs asx:List AV} {args:Array Operand} {tys:Array TypeId} : Sp (ClF Γ c d x args tys ty e o N (.fb f cs) asx) (Rf (Γ.fp.n=none) (Rf (Γ.en f=true) (Cl Γ c f (cs ++ asx) o fun r o'=>N ((d,r) :: e) o'))):=⟨fun⟨hfp,he,h⟩=>⟨fun ha hb hc=>⟨fun env hh G Os cn=>by
 obtain⟨v,g1,ws,rfl,g2⟩:=cn.get ha
 obtain⟨vs,g3,g4⟩:=cn.gets hb
 exact St.callT (cap:= []) Γ.ok g1 g3 he hc (by rw [List.append_nil];exact(cl_sa (dst:=some d) cn (g2.app g4) hfp h).mono fun v h' hk=>hk.2)⟩⟩⟩
end
end Go.CF
namespace Go.Proofs.YtmjllbjfkafhdaaGreatDoor
open Go Go.CF
structure NowOK (m:ModS) (w:NowS):Prop where
 clk:ValC w.clock
 st:w.state.length=strF m
 pls:SrtI w.places
 pll:w.places.length≤100000
theorem alike2'(a b:List Int) : AlikeC [a,b]↔ValC a∧ValC b∧a.length=b.length:=alike2 a b
noncomputable def evsD(m:ModS)(evs:List EvS)(w:NowS)(e:EvS) : List EvS:=if(deliverF m evs w e).1=0 then evs ++ [e] else evs
noncomputable def wI(m:ModS)(w:NowS)(e:EvS) : Nat→NowS
 | 0=>w
 | 1=>{ w with clock:=cntF w.clock e }
 | 2=>{ w with clock:=cntF w.clock e,time:=max w.time e.time }
 | 3=>{ w with clock:=cntF w.clock e,time:=max w.time e.time,state:=addE m w.state e }
 | 4=>{ w with clock:=cntF w.clock e,time:=max w.time e.time,state:=addE m w.state e,merged:=(applyF m w.merged e).2 }
 | _=>⟨cntF w.clock e,max w.time e.time,addE m w.state e,(applyF m w.merged e).2,plE w.places e⟩
def fnL(x:Nat) : List (List AV):= [[AV.fb 94 [pm x]],[AV.fb 95 [pm x]],[AV.fb 96 [pm x]],[AV.fb 97 [pm x]],[AV.fb 98 [pm x]]]
theorem act_rng{e:EvS}(h:FormedE e)(hk:e.kind=0) : 0≤e.action:=by
 have:=(kind0 hk).1 h.2.2.2.2.2
 unfold Sub0 Btw at this
 omega
theorem deliver_a(s:Nat)(m:ModS)(b:NowS)(v:Value)(evl:List EvS)(w:NowS)(e:EvS)(hm:MOK m)(hw:NowOK m w)(hl:evl.length≤100000) :
  CallA Tryz.prog 37 [pm s,evA' e] [stoR s m b v w,arrR v 66 13 evl evC] fun r own=>r=it (deliverF m evl w e).1∧∃v',own= [stoR s m b v' (deliverF m evl w e).2,arrR v' 66 13 (evsD m evl w e) evC]:=by
 have hva:=svalid_p s m b v w e
 by_cases h1:EvV m (w.clock.length:Nat) e
 rotate_left
 ·have hF:deliverF m evl w e=(1,w):=by rw [deliverF,if_pos h1]
  rw [zF h1] at hva
  rw [evsD,hF]
  refine CallA.of pg ord37 Tryz.func37 rfl Tryz.ntmps37 Tryz.results37 rfl fun h0 G0 O0=>?_
  repeat'(first|apply Sp.h|refine Lk.r rfl ?_|refine Rf.mk rfl ?_|apply All.mk|refine xT ?_|refine Ch.l ⟨rfl,rfl⟩ ?_|intro _)
  refine xW (hva) ?_
  rintro _ _ ⟨rfl,rfl⟩
  repeat'(first|apply Sp.h|refine Lk.r rfl ?_|refine Rf.mk rfl ?_|refine xB ?_|refine xN ?_|fail)
  exact⟨_,_, .one (.same (.z)),rfl,v,rfl⟩
 rw [zT h1] at hva
 have hn:=name35_p e
 have hh:=hasC_p w.clock e.rep e.num
 by_cases h2:HasC w.clock e.rep e.num
 ·have hF:deliverF m evl w e=(6,w):=by rw [deliverF,if_neg (fun h=>h h1),if_pos h2]
  rw [zT h2] at hh
  rw [evsD,hF]
  refine CallA.of pg ord37 Tryz.func37 rfl Tryz.ntmps37 Tryz.results37 rfl fun h0 G0 O0=>?_
  repeat'(first|apply Sp.h|refine Lk.r rfl ?_|refine Rf.mk rfl ?_|apply All.mk|refine xT ?_|refine Ch.l ⟨rfl,rfl⟩ ?_|intro _)
  refine xW (hva) ?_
  rintro _ _ ⟨rfl,rfl⟩
  repeat'(first|apply Sp.h|refine Lk.r rfl ?_|refine Rf.mk rfl ?_|refine xA ?_|refine OpK.r rfl ?_|refine xT ?_|refine Ch.l ⟨rfl,rfl⟩ ?_|refine xN ?_|refine xD ?_|(apply Cl.p (hn);focus(repeat' constructor);done)|(apply Cl.p (hh);focus(repeat' constructor);done))
  exact⟨_,_, .one (.same (.z)),rfl,v,rfl⟩
 rw [zF h2] at hh
 have hmi:=missing_o w.clock e.past
 have hal:AlikeC [w.clock,e.past]:=(alike2 _ _).2 ⟨hw.clk,h1.1.1,by have:=h1.2.1;omega⟩
 by_cases h3:Ins e.past w.clock
 rotate_left
 ·have hF:deliverF m evl w e=(9,w):=by rw [deliverF,if_neg (fun h=>h h1),if_neg h2,if_pos h3]
  rw [evsD,hF]
  refine CallA.of pg ord37 Tryz.func37 rfl Tryz.ntmps37 Tryz.results37 rfl fun h0 G0 O0=>?_
  repeat'(first|apply Sp.h|refine Lk.r rfl ?_|refine Rf.mk rfl ?_|apply All.mk|refine xT ?_|refine Ch.l ⟨rfl,rfl⟩ ?_|intro _)
  refine xW (hva) ?_
  rintro _ _ ⟨rfl,rfl⟩
  repeat'(first|apply Sp.h|refine Lk.r rfl ?_|refine Rf.mk rfl ?_|refine xA ?_|refine OpK.r rfl ?_|refine xT ?_|refine Ch.l ⟨rfl,rfl⟩ ?_|refine xD ?_|(apply Cl.p (hn);focus(repeat' constructor);done)|(apply Cl.p (hh);focus(repeat' constructor);done))
  refine xW (hmi) ?_
  rintro _ _ ⟨u,l,rfl,rfl,hl1,hl2⟩
  have hl0:0 < l.length:=List.length_pos_iff.2 fun h=>h3 (hl1.1 h hal)
  repeat'(first|apply Sp.h|refine Lk.r rfl ?_|refine Rf.mk rfl ?_|refine xA ?_|refine OpK.r rfl ?_|refine xU ?_|refine xN ?_|fail)
  exact⟨_,_, .one (.same (.z)),rfl,v,rfl⟩
 have hrep:0≤e.rep∧e.rep.toNat < w.clock.length:=by
  obtain⟨_,f2,⟨x,f3,_⟩,_⟩:=h1.1
  have:=(zS.1 f3).1
  exact⟨f2,by have:=h1.2.1;omega⟩
 have hcl:=hw.clk.2.2
 have hc4:∀k,(wI m w e k).places=w.places∨5≤k:=fun k=>by
  match k with
  | 0=>exact .inl rfl
  | 1=>exact .inl rfl
  | 2=>exact .inl rfl
  | 3=>exact .inl rfl
  | 4=>exact .inl rfl
  | k+5=>exact .inr (by omega)
 refine CallA.of pg ord37 Tryz.func37 rfl Tryz.ntmps37 Tryz.results37 rfl fun h0 G0 O0=>?_
 repeat'(first|apply Sp.h|refine Lk.r rfl ?_|refine Rf.mk rfl ?_|apply All.mk|refine xT ?_|refine Ch.l ⟨rfl,rfl⟩ ?_|intro _)
 rename_i b3
 refine xW (hva) ?_
 rintro _ _ ⟨rfl,rfl⟩
 repeat'(first|apply Sp.h|refine Lk.r rfl ?_|refine Rf.mk rfl ?_|refine xA ?_|refine OpK.r rfl ?_|refine xT ?_|refine Ch.l ⟨rfl,rfl⟩ ?_|refine xD ?_|(apply Cl.p (hn);focus(repeat' constructor);done)|(apply Cl.p (hh);focus(repeat' constructor);done))
 refine xW (hmi) ?_
 rintro _ _ ⟨u,l,rfl,rfl,hl1,hl2⟩
 have hl0:l.length=0:=by rw [hl1.2 fun _=>h3];rfl
 repeat'(first|apply Sp.h|refine Lk.r rfl ?_|refine Rf.mk rfl ?_|refine xB ?_|refine OpK.r rfl ?_|apply All.mk|refine xU ?_|refine xT ?_|refine Ch.l ⟨rfl,rfl⟩ ?_|refine Ch.r ?_|(apply Fk.r;focus repeat' first|infer_instance|constructor)|refine Rf.mk ⟨rfl,rfl,rfl⟩ ?_|refine xD ?_|intro _)
 rename_i x q
 refine CA.loop (fun i:Nat=>⟨[(0,pm s),(3,pm b3),(5,pm x),(52, .ow q),(53,it 5),(54,it i)],[stoR s m b v w,arrR v 66 13 evl evC,blkR b3 66 (evC e),stpR x s e (wI m w e i),arrR q 162 1 (fnL x) id]⟩)
  (fun i=>i≤5∧(2≤i→¬LateE evl e)∧(3≤i→¬(e.kind=0∧¬insS (addE m w.state e)))∧(4≤i→(applyF m w.merged e).1=0)) (fun i=>5 - i) 0 xE ⟨by omega,fun h=>by omega,fun h=>by omega,fun h=>by omega⟩ ?_
 rintro i ⟨hi,i2,i3,i4⟩
 match i,hi with
 | 0,_ =>
  have hq:(fnL x)[0]?=some [AV.fb 94 [pm x]]:=rfl
  have hc:=count_a x s e w hrep.1 hrep.2 hcl
  repeat'(first|apply Sp.h|refine Lk.r rfl ?_|refine Rf.mk rfl ?_|refine xA ?_|refine xU ?_|refine xI ?_|refine xJ ?_|fail)
  refine xW (hc) ?_
  rintro _ _ ⟨rfl,rfl⟩
  repeat'(first|apply Sp.h|refine Lk.r rfl ?_|refine Rf.mk rfl ?_|refine xA ?_|refine xO ?_|fail)
  exact PA.lp 1 xE ⟨⟨by omega,fun h=>by omega,fun h=>by omega,fun h=>by omega⟩,by omega⟩
 | 1,_ =>
  have hq:(fnL x)[1]?=some [AV.fb 95 [pm x]]:=rfl
  have hc:=order_a x s m b v evl w e (wI m w e 1) (by omega)
  repeat'(first|apply Sp.h|refine Lk.r rfl ?_|refine Rf.mk rfl ?_|refine xA ?_|refine xU ?_|refine xI ?_|refine xJ ?_|fail)
  refine xW (hc) ?_
  rintro _ _ (⟨hL,rfl,rfl⟩|⟨hL,rfl,rfl⟩)
  ·have hF:deliverF m evl w e=(2,w):=by rw [deliverF,if_neg (fun h=>h h1),if_neg h2,if_neg (fun h=>h h3),if_pos hL]
   rw [evsD,hF]
   repeat'(first|apply Sp.h|refine Lk.r rfl ?_|refine Rf.mk rfl ?_|refine xB ?_|refine xN ?_|fail)
   exact⟨_,_, .one (.same (.z)),rfl,v,rfl⟩
  ·repeat'(first|apply Sp.h|refine Lk.r rfl ?_|refine Rf.mk rfl ?_|refine xA ?_|refine xO ?_|fail)
   exact PA.lp 2 xE ⟨⟨by omega,fun _=>hL,fun h=>by omega,fun h=>by omega⟩,by omega⟩
 | 2,_ =>
  have hq:(fnL x)[2]?=some [AV.fb 96 [pm x]]:=rfl
  have hL:=i2 (by omega)
  have hc:=sadd_a x s m b v w e (wI m w e 2) hm hw.st (fun hk=>⟨act_rng h1.1 hk,h1.2.2 hk⟩)
  repeat'(first|apply Sp.h|refine Lk.r rfl ?_|refine Rf.mk rfl ?_|refine xA ?_|refine xU ?_|refine xI ?_|refine xJ ?_|fail)
  refine xW (hc) ?_
  rintro _ _ (⟨hk,hL2,rfl,rfl⟩|⟨hL2,rfl,rfl⟩)
  ·have hF:deliverF m evl w e=(2,w):=by rw [deliverF,if_neg (fun h=>h h1),if_neg h2,if_neg (fun h=>h h3),if_neg hL,if_pos ⟨hk,hL2⟩]
   rw [evsD,hF]
   repeat'(first|apply Sp.h|refine Lk.r rfl ?_|refine Rf.mk rfl ?_|refine xB ?_|refine xN ?_|fail)
   exact⟨_,_, .one (.same (.z)),rfl,v,rfl⟩
  ·repeat'(first|apply Sp.h|refine Lk.r rfl ?_|refine Rf.mk rfl ?_|refine xA ?_|refine xO ?_|fail)
   exact PA.lp 3 xE ⟨⟨by omega,fun _=>hL,fun _=>hL2,fun h=>by omega⟩,by omega⟩
 | 3,_ =>
  have hq:(fnL x)[3]?=some [AV.fb 97 [pm x]]:=rfl
  have hL:=i2 (by omega)
  have hL2:=i3 (by omega)
  have hc:=update_a x s m b v w e (wI m w e 3) hm
  by_cases hA:(applyF m w.merged e).1=0
  ·repeat'(first|apply Sp.h|refine Lk.r rfl ?_|refine Rf.mk rfl ?_|refine xA ?_|refine xU ?_|refine xI ?_|refine xJ ?_|fail)
   refine xW (hc) ?_
   rintro _ _ ⟨rfl,rfl⟩
   simp only [wI]
   repeat'(first|apply Sp.h|refine Lk.r rfl ?_|refine Rf.mk rfl ?_|refine xA ?_|refine xO ?_|fail)
   exact PA.lp 4 xE ⟨⟨by omega,fun _=>hL,fun _=>hL2,fun _=>hA⟩,by omega⟩
  ·have hF:deliverF m evl w e=((applyF m w.merged e).1,w):=by rw [deliverF,if_neg (fun h=>h h1),if_neg h2,if_neg (fun h=>h h3),if_neg hL,if_neg hL2,if_pos hA]
   rw [evsD,hF]
   repeat'(first|apply Sp.h|refine Lk.r rfl ?_|refine Rf.mk rfl ?_|refine xA ?_|refine xU ?_|refine xI ?_|refine xJ ?_|fail)
   refine xW (hc) ?_
   rintro _ _ ⟨rfl,rfl⟩
   simp only [wI]
   rw [if_neg hA]
   repeat'(first|apply Sp.h|refine Lk.r rfl ?_|refine Rf.mk rfl ?_|refine xB ?_|refine xN ?_|fail)
   exact⟨_,_, .one (.same (.z)),rfl,v,rfl⟩
 | 4,_ =>
  have hq:(fnL x)[4]?=some [AV.fb 98 [pm x]]:=rfl
  have hc:=place_a x s e (wI m w e 4) hw.pls hw.pll
  repeat'(first|apply Sp.h|refine Lk.r rfl ?_|refine Rf.mk rfl ?_|refine xA ?_|refine xU ?_|refine xI ?_|refine xJ ?_|fail)
  refine xW (hc) ?_
  rintro _ _ ⟨rfl,rfl⟩
  repeat'(first|apply Sp.h|refine Lk.r rfl ?_|refine Rf.mk rfl ?_|refine xA ?_|refine xO ?_|fail)
  exact PA.lp 5 xE ⟨⟨by omega,fun _=>i2 (by omega),fun _=>i3 (by omega),fun _=>i4 (by omega)⟩,by omega⟩
 | 5,_ =>
  have hL:=i2 (by omega)
  have hL2:=i3 (by omega)
  have hA:=i4 (by omega)
  have hF:deliverF m evl w e=(0,wI m w e 5):=by rw [deliverF,if_neg (fun h=>h h1),if_neg h2,if_neg (fun h=>h h3),if_neg hL,if_neg hL2,if_neg (fun h=>h hA)];rfl
  have hpl:=h1.1.1.2.2
  have hce:=cloneEs_p [e] (by simp) (fun d hd=>by rw [zH.1 hd];omega)
  rw [evsD,hF,if_pos rfl]
  repeat'(first|apply Sp.h|refine Lk.r rfl ?_|refine Rf.mk rfl ?_|refine xB ?_|refine OpK.r rfl ?_|apply All.mk|refine xT ?_|refine Ch.l ⟨rfl,rfl⟩ ?_|refine Ch.r ?_|(apply SetAsk.r;focus repeat' constructor)|(apply Fk.r;focus repeat' first|infer_instance|constructor)|refine Rf.mk ⟨rfl,rfl,rfl⟩ ?_|refine xD ?_|intro _)
  apply Cl.fx [evs [e]]
  focus(apply FX.sl;(focus repeat constructor);(focus exact zB rfl);(focus exact FX.le (ALe.refl _) FX.nil);(focus exact FX.nil))
  repeat'(first|apply Sp.h|refine Lk.r rfl ?_|refine Rf.mk rfl ?_|refine OpK.r rfl ?_|refine xP ?_|refine All.mk fun _=>?_|refine xU ?_|refine xT ?_|refine Ce.r ?_|refine xV ?_|refine xN ?_|refine Rf.mk ⟨rfl,rfl⟩ ?_|refine Mp.same ?_|(apply Cl.p (hce);focus repeat' constructor))
  exact⟨_,_, .one (.same (.z)),rfl,_,rfl⟩
end Go.Proofs.YtmjllbjfkafhdaaGreatDoor
namespace Go.CF
open Go
section
variable {Γ:Cx} {k:List KI} {e:EA} {o:List Res} {N:NA} {c:Cls} {d:Tmp} {ty:TypeId} {x y z:Operand} {t u:TypeId} {kk:IntKind} {i:Int}
instance {v:Value} {s j m:Nat} : Sp (Ap1 Γ c d (.call { callee:= .builtin .len,args:=#[x],argTypes:=#[t] }) ty e o N x (.os v s j m)) (Lk (slE Γ.tt t) fun _=>N ((d, .val (.int .i64 (m:Int))) :: e) o):=⟨fun⟨p,hp,hn⟩=>⟨fun ha=>⟨fun env hh G Os cn=>by
 obtain⟨w,h1,q,len,cap,rfl,hle,rfl⟩:=cn.get ha
 obtain⟨ti,t1,t2,t3⟩:=slE_spec hp
 exact St.len Γ.ok t1 t2 h1 (CN.mk (cn.put d (a:= .val _) rfl) hn)⟩⟩⟩
instance {v:Value} {s j m:Nat} : Sp (Ap2 Γ c d (.indexAddr t x y) ty e o N x (.os v s j m) y (.val (.int kk i))) (Lk (slE Γ.tt t) fun p=>TkA o v fun _ sz _ _ _=>Rf (p.2.size=sz∧s=sz) (Sx i m fun q=>N ((d, .oe v sz (j+q) 0) :: e) o)):=⟨fun⟨p,hp,α,T,sz,l,f,rest,tk,hz,q,hi,hq,hn⟩=>⟨fun ha hb=>⟨fun env hh G Os cn=>by
 obtain⟨hz,rfl⟩:=hz
 obtain⟨w,h1,q',len,cap,rfl,hle,rfl⟩:=cn.get ha
 obtain⟨w',h1',h2'⟩:=cn.get hb
 have hw:w'= .int kk i:=h2'
 subst hw
 obtain⟨O,Os',cn2⟩:=cn.take tk
 obtain⟨⟨_,rows,hw,_⟩,_⟩:=cn2.hp.own
 obtain⟨ti,t1,t2,t3⟩:=slE_spec hp
 rcases hw.ok with⟨he,h0⟩|⟨b,of,cap',L,he,_,_,hcap,_⟩
 ·cases he;omega
 ·cases he
  have hs:subA (some ⟨b,of,none⟩) s j cap=some ⟨b,of+j * s,none⟩:=by
   unfold subA
   rw [if_neg (by omega)]
   simp [addr_add]
  rw [hs] at h1
  exact St.indexAddr Γ.ok t1 t2 t3 h1 h1' hi hq (CN.mk (cn.put d (a:= .oe _ s (j+q) 0) ⟨b,of,_,cap,rfl,by rw [hz,Nat.add_zero,Nat.add_mul,Nat.add_assoc]⟩) hn)⟩⟩⟩
theorem ALe.tup{l m:List AV}(r:RLe l m) : ALe (.tup l) (.tup m):=⟨fun⟨vs,h1,h2⟩=>⟨vs,h1,r.rep h2⟩⟩
theorem ALe.agg{l m:List AV}(r:RLe l m) : ALe (.agg l) (.agg m):=⟨fun⟨vs,h1,h2⟩=>⟨vs,h1,⟨r.rep h2.t,h2.one⟩⟩⟩
end

/-! ### The library's sorts -/
section
open Go.Sort
theorem putCells_list{α:Type}[Inhabited α](enc:α→Value)(o:Nat)(d:List α)(c:List Value)(hd:o+d.length≤c.length) :
  putCells enc o d.toArray c.toArray=(c.take o ++ d.map enc ++ c.drop (o+d.length)).toArray:=by
 apply Array.ext'
 simp only [putCells]
 refine List.ext_getElem? fun q=>?_
 simp only [Array.toList_mapIdx,List.getElem?_mapIdx,List.size_toArray]
 by_cases g1:q < o
 ·have h2:q < c.length:=by omega
  rw [List.append_assoc,zI (by simp;omega),List.getElem?_take,if_pos g1,zE h2,Option.map_some,if_neg (by omega)]
 ·by_cases g2:q < o+d.length
  ·have h2:q < c.length:=by omega
   have h3:q - o < d.length:=by omega
   rw [zI (by simp;omega),zJ (by simp;omega),zE h2,Option.map_some,if_pos (by omega),zN,Nat.min_eq_left (by omega),zG,zE h3]
   simp [getElem!_pos,h3]
  ·rw [zJ (by simp;omega),List.getElem?_drop]
   simp only [zP,zN,List.length_map,Nat.min_eq_left (show o≤c.length by omega)]
   rw [show o+d.length+(q - (o+d.length))=q by omega]
   cases hq:c[q]? with
   | none=>rfl
   | some x=>rw [Option.map_some,if_neg (by omega)]
theorem flat_one{α β:Type}(g:α→β) :∀l:List α,(l.map fun x=> [g x]).flatten=l.map g
 | []=>rfl
 | a :: l=>by simp [flat_one g l]
theorem put_own{α:Type}[Inhabited α]{enc:α→Value}{w w':World}{b of n cap len T sz:Nat}{L:List Value}{ds:List α}{os:Array Obj}(hb:Blk w.heap b T L)(ho:of+cap * sz≤L.length)(hlen:len≤cap)(hd:ds.length=len * sz)
  (hw':w'=Sort.grow (putRow enc (Sort.ahead w n) b of ds.toArray) os) :
  Same w w'∧FPx (fun x=>¬x=b) w.heap w'.heap∧Own w'.heap (.slice (some ⟨b,of,none⟩) len cap) T sz len (ds.map enc):=by
 have hm:len * sz≤cap * sz:=zU _ hlen
 have hg:=hb.get
 have hlt:=(zA.1 hg).1
 have hh:w'.heap=w.heap.modify b (onCells (putCells enc of ds.toArray)) ++ os:=by rw [hw'];rfl
 refine⟨⟨by subst hw';rfl,by subst hw';rfl,by subst hw';rfl,by subst hw';exact Nat.le_add_right _ _,by rw [hh];simp,fun k o hk ho=>?_⟩,⟨?_,fun q hq hl=>?_⟩,by simp [hd], .inr ⟨b,of,cap,L.take of ++ ds.map enc ++ L.drop (of+ds.length),rfl,⟨?_⟩, ?_,hlen, ?_⟩⟩
 ·have hkl:=(zA.1 hk).1
  rw [hh,Array.getElem?_append_left (by simpa using hkl),Array.getElem?_modify]
  by_cases hkb:b=k
  ·subst hkb;rw [hg] at hk;cases hk;cases ho
  ·rw [if_neg hkb];exact hk
 ·rw [hh];simp
 ·rw [hh,Array.getElem?_append_left (by simpa using hl),Array.getElem?_modify,if_neg (fun e=>hq e.symm)]
 ·rw [hh,Array.getElem?_append_left (by simpa using hlt),Array.getElem?_modify,if_pos rfl,hg,Option.map_some]
  simp only [onCells]
  rw [putCells_list enc of ds L (by omega)]
 ·simp only [zP,zN,List.length_map,List.length_drop]
  omega
 ·rw [List.append_assoc,List.drop_append_of_le_length (by simp;omega),List.drop_eq_nil_of_le (by simp;omega),List.nil_append,List.take_append_of_le_length (by simp;omega),List.take_of_length_le (by simp;omega)]
theorem holds_blk{w:World}{b of T:Nat}{L:List Value}(hb:Blk w.heap b T L){α:Type}[Inhabited α](enc:α→Value)(ds:List α)(hd:(L.drop of).take ds.length=ds.map enc) : Holds enc w b of ds.toArray:=by
 intro j hj
 have hj:j < ds.length:=by simpa using hj
 have h1:((L.drop of).take ds.length)[j]?=some (enc ds[j]):=by rw [hd];simp [hj]
 rw [List.getElem?_take,if_pos hj,List.getElem?_drop] at h1
 have hg:=hb.get
 constructor
 ·simp only [World.cell?,hg]
  simp [h1,hj]
 ·simp [World.frozen?,hg]
open Go.Proofs in
theorem sortI_a{P:Program}{ρ:Shelf.Ren}(L:Lays.n189 P ρ)(v:Value)(T:TypeId)(l:List Int)(hl:l.length≤1000000) :
  CallA P (ρ.f 189) [.ow v] [arrR v T 1 l fun x=> [.val (.int .i64 x)]] fun r own=>r= .tup []∧own= [arrR v T 1 (l.mergeSort fun x y=>decide (x≤y)) fun x=> [.val (.int .i64 x)]]:=by
 refine⟨fun h G Os vs hr hp=>?_⟩
 match vs,hr with
 | [w0],⟨⟨h1,p,len,cap,h2⟩,_⟩ =>
  subst h1
  match Os,hp with
  | [O],hp =>
   obtain⟨⟨hO,rows,hown,hrows⟩,_⟩:=hp.own
   have hflat:rows.flatten=l.map (Value.int .i64):=by
    have h3:rows=l.map fun x=> [Value.int .i64 x]:=by
     refine List.ext_getElem? fun q=>?_
     rw [zG]
     cases hq:l[q]? with
     | none =>
      have:=List.getElem?_eq_none_iff.1 hq
      have:=hrows.len
      rw [zX (by omega)];rfl
     | some x =>
      obtain⟨row,g1,g2,_⟩:=hrows.at hq
      rw [g1]
      have:row= [Value.int .i64 x]:=repT_val (r:= [.int .i64 x]) g2.t
      rw [this];rfl
    rw [h3,flat_one]
   have fin:∀rows',rows'=(l.mergeSort fun x y=>decide (x≤y)).map (fun x=> [Value.int .i64 x])→∀h' G',Rows h' G' 1 rows' (l.mergeSort fun x y=>decide (x≤y)) fun x=> [AV.val (.int .i64 x)]:=by
    rintro _ rfl h' G'
    refine⟨by simp,fun q r x g1 g2=>?_,fun r hr=>?_⟩
    ·rw [zG,g2] at g1
     cases g1
     exact⟨⟨rfl,trivial⟩,by simp [Value.oneCell']⟩
    ·obtain⟨x,_,rfl⟩:=List.mem_map.1 hr;rfl
   have hff:∀s:List Int,(s.map fun x=> [Value.int .i64 x]).flatten=s.map (Value.int .i64):=fun s=>flat_one _ s
   rw [hflat] at hown
   refine⟨fun w hw=>?_⟩
   subst hw
   rcases hown.ok with⟨he,h0⟩|⟨b,of,cap',L',he,hb,h3,h4,h5⟩
   ·have hl0:l= []:=zQ h0
    subst hl0
    subst he
    refine(Any.slices_Sort_int_none L none 0 w).mono ?_
    rintro e w' ⟨rfl,rfl⟩
    exact⟨_,rfl,Same.refl _, .tup [],_,G,[O],⟨rfl,rfl⟩,⟨[],rfl,trivial⟩,⟨⟨⟨hO,rows,by rw [hflat];simpa using hown,by simpa using hrows⟩,trivial⟩,hp.g,hp.g0,hp.o,hp.d,hp.fp⟩⟩
   ·subst he
    rw [Nat.mul_one] at h3 h5
    have hH:=holds_blk hb (Value.int .i64) l (by simpa using h5)
    refine(calls_of_every_depth fun D=>AnyS.slices_Sort_int_in L.lead D b of cap' l w hH hb.lt (by omega)).mono ?_
    rintro e w' ⟨rfl,n,os,hw'⟩
    obtain⟨k1,k2,k3⟩:=put_own (ds:=l.mergeSort fun x y=>decide (x≤y)) (sz:=1) (len:=l.length) (cap:=cap') hb (by omega) h4 (by simp) hw'
    have hOb:∀x,O x↔x=b:=fun x=>by rw [hO];simp [blkOf]
    have k2':FPx (fun x=>¬O x) w.heap w'.heap:=k2.mono fun x hx e=>hx ((hOb x).2 e)
    obtain⟨k4,_⟩:=hp.upd (R':=arrR (.slice (some ⟨b,of,none⟩) l.length cap') T 1 (l.mergeSort fun x y=>decide (x≤y)) fun x=> [.val (.int .i64 x)]) (O':=O) k2'
     (fun x hx=>⟨Nat.lt_of_lt_of_le (hp.o O (by simp) x hx).1 k2.size, .inl hx⟩)
     ⟨hO,_,by rw [hff];simpa using k3,fin _ rfl _ _⟩
    exact⟨_,rfl,k1, .tup [],_,G,[O],⟨rfl,rfl⟩,⟨[],rfl,trivial⟩,k4⟩
end
end Go.CF
namespace Go.Proofs.YtmjllbjfkafhdaaGreatDoor
open Go Go.CF
structure SzN (b:NowS):Prop where
 c:b.clock.length≤100000
 s:b.state.length≤100000
 m:b.merged.length≤100000
 k:∀g∈b.merged,g.marks.length≤1000000
 p:b.places.length≤100000
theorem cloneBase_a(b:NowS)(r s:AV)(h:SzN b) :
  CallA Tryz.prog 104 [.agg [ints b.clock,it b.time,ints b.state,mgs b.merged,r,s,ints b.places]] [] fun q own=>∃v1 v2 v3 L v4,q= .agg [.ow v1,it b.time, .ow v2, .ow v3,nl0,nl0, .ow v4]∧L.map MgE.g=b.merged∧
   own= [arrR v4 3 1 b.places intC,arrR v3 231 3 L mgeC,bunR (L.map mgeR),arrR v2 3 1 b.state intC,arrR v1 3 1 b.clock intC]:=by
 have h1:=clone_o b.clock (by have:=h.c;omega)
 have h2:=clone_o b.state (by have:=h.s;omega)
 have h3:=cloneM_a b.merged (by have:=h.m;omega) h.k
 have h4:=clone_o b.places (by have:=h.p;omega)
 refine CallA.of pg ord104 Tryz.func104 rfl Tryz.ntmps104 Tryz.results104 rfl fun h0 G0 O0=>?_
 repeat'(first|apply Sp.h|refine Lk.r rfl ?_|refine Rf.mk rfl ?_|refine OpK.r rfl ?_|apply All.mk|refine xT ?_|refine xN ?_|refine xD ?_|intro _)
 (refine Cl.use (h1) (by repeat'(first|exact Lend.nil|apply Lend.keep|fail)) .nil rfl ?_;rintro _ _ ⟨_,rfl,rfl⟩)
 repeat'(first|apply Sp.h|refine Lk.r rfl ?_|refine Rf.mk rfl ?_|refine OpK.r rfl ?_|fail)
 (refine Cl.use (h2) (by repeat'(first|exact Lend.nil|apply Lend.keep|fail)) .nil rfl ?_;rintro _ _ ⟨_,rfl,rfl⟩)
 repeat'(first|apply Sp.h|refine Lk.r rfl ?_|refine Rf.mk rfl ?_|refine OpK.r rfl ?_|fail)
 refine xW (h3) ?_
 rintro _ _ ⟨v3,L,rfl,hL,rfl⟩
 repeat'(first|apply Sp.h|refine Lk.r rfl ?_|refine Rf.mk rfl ?_|refine OpK.r rfl ?_|fail)
 (refine Cl.use (h4) (by repeat'(first|exact Lend.nil|apply Lend.keep|fail)) .nil rfl ?_;rintro _ _ ⟨_,rfl,rfl⟩)
 repeat'(first|apply Sp.h|refine Lk.r rfl ?_|refine Rf.mk rfl ?_|refine OpK.r rfl ?_|refine xT ?_|(apply SetAsk.r;focus repeat' constructor)|(apply Fk.r;focus repeat' first|infer_instance|constructor)|refine xN ?_|fail)
 exact⟨_,_, .one (.same (.z)),_,_,_,L,_,rfl,hL,rfl⟩
theorem cloneBase_p(b:NowS)(r s:AV)(h:SzN b) : CallP Tryz.prog 104 [.agg [ints b.clock,it b.time,ints b.state,mgs b.merged,r,s,ints b.places]] (basA b):=by
 refine CallA.fx (cloneBase_a b r s h) ?_
 rintro q o ⟨v1,v2,v3,L,v4,rfl,hL,rfl⟩
 have:=h.c;have:=h.s;have:=h.m;have:=h.p
 have hk:∀x∈L,x.marks.length≤1000000:=fun x hx=>h.k x.g (by rw [←hL];exact List.mem_map_of_mem hx)
 have hLl:L.length≤1000000:=by have:=congrArg List.length hL;simp at this;omega
 rw [show basA b= .agg [ints b.clock,it b.time,ints b.state,mgs (L.map MgE.g),nl0,nl0,ints b.places] by rw [hL]]
 refine .agg ?_ .nil
 refine FX.s1 (T:=3) (by repeat constructor) (by omega) (FX.k (FX.s1 (T:=3) (by repeat constructor) (by omega) ?_))
 refine out_fx2 (by repeat constructor) (by repeat constructor) hLl hk (FX.k (FX.k (FX.s1 (T:=3) (by repeat constructor) (by omega) .nil)))
theorem open_a(m:ModS)(b:NowS)(r s:AV)(h:SzN b) :
  CallA Tryz.prog 87 [mdl m, .agg [ints b.clock,it b.time,ints b.state,mgs b.merged,r,s,ints b.places]] [] fun q own=>∃p v,q=pm p∧own= [stoR p m b v b,arrR v 66 13 ([]:List EvS) evC]:=by
 have h1:=cloneBase_p b r s h
 have h2:=cloneBase_p b nl0 nl0 h
 refine CallA.own (K:=fun q own=>∃p,q=pm p∧own= [blkR p 133 [ints m.sorts,tbls m.tables, .sl 1 m.families strC, .sl 6 m.cons cnsC, .sl 3 m.ops opC, .sl 5 m.acts actC, .sl 3 m.hides updC,ints b.clock,it b.time,ints b.state,mgs b.merged,nl0,nl0,ints b.places,nl0,ints b.clock,it b.time,ints b.state,mgs b.merged,ints b.places]]) ?_ ?_
 ·refine CallA.of pg ordZ Tryz.func87 rfl Tryz.ntmps87 Tryz.results87 rfl fun h0 G0 O0=>?_
  repeat'(first|apply Sp.h|refine Lk.r rfl ?_|refine Rf.mk rfl ?_|refine All.mk fun _=>?_|refine xT ?_|refine Ch.l ⟨rfl,rfl⟩ ?_|(apply SetAsk.r;focus repeat' constructor)|(apply Fk.r;focus repeat' first|infer_instance|constructor)|refine xN ?_|(apply Cl.p (h1);(focus((repeat'(first|exact Lend.nil|apply Lend.keep|apply Lend.agg|fail));done)))|(apply Cl.p (h2);(focus((repeat'(first|exact Lend.nil|apply Lend.keep|apply Lend.agg|fail));done))))
  exact⟨_,_, .one (.same (.z)),_,rfl,rfl⟩
 ·rintro _ _ ⟨p,rfl,rfl⟩
  refine⟨[stoR p m b (.slice none 0 0) b,arrR (.slice none 0 0) 66 13 ([]:List EvS) evC], ?_,p,_,rfl,rfl⟩
  refine(OX.nil _ 66 13 evC).trans (OX.recell (.there .here) _ ?_)
  (repeat'(first|exact RLe.nil|(apply RLe.cons;(focus first|exact ALe.refl _|exact ALe.nilow|exact ALe.nil))))
theorem new35_a(m:ModS)(n:Nat)(ld:List Int)(hm:MOK m)(hn:1≤n∧n≤5)(hl:ld.length=strF m)(hs:insS ld) :
  CallA Tryz.prog 35 [mdl m,it n,ints ld] [] fun q own=>∃p v,q= .tup [pm p,it 0]∧own= [stoR p m ⟨List.replicate n 0,0,ld,List.replicate (mrgF m).length mg0,[]⟩ v ⟨List.replicate n 0,0,ld,List.replicate (mrgF m).length mg0,[]⟩,arrR v 66 13 ([]:List EvS) evC]:=by
 have h1:=cells35_p m hm.lay
 have h2:=inside35_p ld
 rw [zT hs] at h2
 have h3:CallP Tryz.prog 88 [it n] (ints (List.replicate n 0)):=CallA.fz (T:=3) (by simp;omega) (by have:=zero_ok (n:Int) (by omega);rwa [Int.toNat_natCast] at this)
 have h4:=new_p m hm.lay
 have:=hm.str;have:=hm.mrg
 have h5:=open_a m ⟨List.replicate n 0,0,ld,List.replicate (mrgF m).length mg0,[]⟩ nl0 nl0 ⟨by simp;omega,by simp only;omega,by simp;omega,fun g hg=>by rw [(List.mem_replicate.1 hg).2];simp [mg0],by simp⟩
 have h6:CallA Tryz.prog 87 [mdl m, .agg [ints (List.replicate n 0),it 0,ints ld,mgs (List.replicate (mrgF m).length mg0),nl0,nl0,nl0]] [] fun q own=>∃p v,q=pm p∧own= [stoR p m ⟨List.replicate n 0,0,ld,List.replicate (mrgF m).length mg0,[]⟩ v ⟨List.replicate n 0,0,ld,List.replicate (mrgF m).length mg0,[]⟩,arrR v 66 13 ([]:List EvS) evC]:=by
  refine CallA.args (RLe.cons (ALe.refl _) (RLe.cons (ALe.agg ?_) .nil)) h5
  (repeat'(first|exact RLe.nil|(apply RLe.cons;(focus first|exact ALe.refl _|exact ALe.nilow|exact ALe.nil))))
 refine CallA.of pg ord35 Tryz.func35 rfl Tryz.ntmps35 Tryz.results35 rfl fun h0 G0 O0=>?_
 repeat'(first|apply Sp.h|refine Lk.r rfl ?_|refine Rf.mk rfl ?_|refine xA ?_|refine xB ?_|refine OpK.r rfl ?_|refine Im.mk fun _=>?_|refine All.mk fun _=>?_|refine xT ?_|refine Ch.l ⟨rfl,rfl⟩ ?_|(apply Fk.r;focus repeat' first|infer_instance|constructor)|refine xD ?_|(apply Cl.p (h1);focus(repeat' constructor);done)|(apply Cl.p (h2);focus(repeat' constructor);done)|(apply Cl.p (h3);focus(repeat' constructor);done)|(apply Cl.p (h4);focus(repeat' constructor);done))
 refine xW (h6) ?_
 rintro _ _ ⟨p,v,rfl,rfl⟩
 repeat'(first|apply Sp.h|refine Lk.r rfl ?_|refine OpK.r rfl ?_|refine xN ?_|fail)
 exact⟨_,_, .tup (.same (.same (.z))),p,v,rfl,rfl⟩
def ConC(a b:List Int) : Prop:=AlikeC [a,b]∧Ins b a
noncomputable instance (a b:List Int):Decidable (ConC a b):=zC _
theorem conC_iff(a b:List Int) : ConC a b↔(ValC a∧ValC b∧a.length=b.length)∧Ins b a:=by
 unfold ConC
 rw [alike2']
theorem scontains_p(a b:List Int) : CallP Tryz.prog 62 [ints a,ints b] (bl (decide (ConC a b))):=by
 have h:=compare_p a b
 by_cases hal:AlikeC [a,b]
 ·rw [if_pos hal] at h
  refine CallA.of pg ordZ Tryz.func62 rfl Tryz.ntmps62 Tryz.results62 rfl fun h0 G0 O0=>?_
  by_cases hba:Ins b a
  ·rw [zT (show ConC a b from⟨hal,hba⟩)]
   by_cases hab:Ins a b
   ·rw [if_pos ⟨hab,hba⟩] at h
    repeat'(first|apply Sp.h|refine Lk.r rfl ?_|refine Rf.mk rfl ?_|refine xA ?_|refine xN ?_|(apply Cl.p (h);focus repeat' constructor))
    all_goals exact Fin.p rfl (vb (by simp))
   ·rw [if_neg (fun h=>hab h.1),if_neg hab,if_pos hba] at h
    repeat'(first|apply Sp.h|refine Lk.r rfl ?_|refine Rf.mk rfl ?_|refine xA ?_|refine xB ?_|refine xN ?_|(apply Cl.p (h);focus repeat' constructor))
    all_goals exact Fin.p rfl (vb (by simp))
  ·rw [zF (fun h:ConC a b=>hba h.2)]
   by_cases hab:Ins a b
   ·rw [if_neg (fun h=>hba h.2),if_pos hab] at h
    repeat'(first|apply Sp.h|refine Lk.r rfl ?_|refine Rf.mk rfl ?_|refine xA ?_|refine xB ?_|refine xN ?_|(apply Cl.p (h);focus repeat' constructor))
    all_goals exact Fin.p rfl (vb (by simp))
   ·rw [if_neg (fun h=>hba h.2),if_neg hab,if_neg hba] at h
    repeat'(first|apply Sp.h|refine Lk.r rfl ?_|refine Rf.mk rfl ?_|refine xA ?_|refine xB ?_|refine xN ?_|(apply Cl.p (h);focus repeat' constructor))
    all_goals exact Fin.p rfl (vb (by simp))
 ·rw [if_neg hal] at h
  rw [zF (fun h:ConC a b=>hal h.1)]
  refine CallA.of pg ordZ Tryz.func62 rfl Tryz.ntmps62 Tryz.results62 rfl fun h0 G0 O0=>?_
  repeat'(first|apply Sp.h|refine Lk.r rfl ?_|refine Rf.mk rfl ?_|refine xB ?_|refine xN ?_|(apply Cl.p (h);focus repeat' constructor))
  all_goals exact Fin.p rfl (vb (by simp))
theorem sinside_p(c:List Int)(e:EvS) : CallP Tryz.prog 65 [ints c,evA' e] (bl (decide (HasC c e.rep e.num))):=by
 have h:=hasC_p c e.rep e.num
 refine CallA.of pg ordZ Tryz.func65 rfl Tryz.ntmps65 Tryz.results65 rfl fun h0 G0 O0=>?_
 repeat'(first|apply Sp.h|refine Lk.r rfl ?_|refine Rf.mk rfl ?_|refine All.mk fun _=>?_|refine xT ?_|(apply Fk.r;focus repeat' first|infer_instance|constructor)|refine xN ?_|(apply Cl.p (h);focus repeat' constructor))
 exact Fin.p rfl rfl
theorem contains52_p(a b:List Int) : CallP Tryz.prog 27 [ints a,ints b] (bl (decide (ConC a b))):=by
 have h1:=validR_p a
 have h2:=validR_p b
 by_cases hv:ValC a∧ValC b∧a.length=b.length
 ·obtain⟨v1,v2,v3⟩:=hv
  rw [zT v1] at h1
  rw [zT v2] at h2
  refine CallA.of pg ord27 Tryz.func27 rfl Tryz.ntmps27 Tryz.results27 rfl fun h0 G0 O0=>?_
  repeat'(first|apply Sp.h|refine Lk.r rfl ?_|refine Rf.mk rfl ?_|refine xA ?_|refine Im.mk fun _=>?_|(apply Cl.p (h1);focus(repeat' constructor);done)|(apply Cl.p (h2);focus(repeat' constructor);done))
  all_goals try exact(by omega:False).elim
  refine CA.loop (fun i:Nat=>⟨[(0,ints a),(1,ints b),(5,it i)],[]⟩) (fun i=>i≤a.length∧∀j x,j < i→b[j]?=some x→∀y,a[j]?=some y→x≤y) (fun i=>a.length - i) 0 xE ⟨zZ _,fun j x h=>by omega⟩ ?_
  rintro i ⟨hi,hle⟩
  by_cases hin:i < a.length
  ·obtain⟨x,hx⟩:=get_of hin
   obtain⟨y,hy⟩:=get_of (l:=b) (i:=i) (by omega)
   by_cases hxy:x < y
   ·rw [zF (fun h:ConC a b=>by have:=h.2 i y x hy hx;omega)]
    repeat'(first|apply Sp.h|refine Lk.r rfl ?_|refine Rf.mk rfl ?_|refine xA ?_|refine OpK.r rfl ?_|apply Im.mk|refine xI ?_|refine xN ?_|refine xD ?_|intro _)
    all_goals first
     | exact Fin.p rfl rfl
     | exact(by omega:False).elim
   ·repeat'(first|apply Sp.h|refine Lk.r rfl ?_|refine Rf.mk rfl ?_|refine xA ?_|refine xB ?_|refine OpK.r rfl ?_|apply Im.mk|refine xI ?_|refine xD ?_|refine xO ?_|intro _)
    all_goals first
     | exact PA.lp (i+1) xE ⟨⟨hin,alli_succ hy hle fun z hz=>by rw [hx] at hz;cases hz;omega⟩,by omega⟩
     | exact(by omega:False).elim
  ·rw [zT ((conC_iff a b).2 ⟨⟨v1,v2,v3⟩,fun j x y hx hy=>hle j x (by have:=(zS.1 hy).1;omega) hx y hy⟩)]
   repeat'(first|apply Sp.h|refine Lk.r rfl ?_|refine Rf.mk rfl ?_|refine xB ?_|apply Im.mk|refine xN ?_|intro _)
   exact Fin.p rfl rfl
 ·rw [zF (fun h:ConC a b=>hv ((conC_iff a b).1 h).1)]
  refine CallA.of pg ord27 Tryz.func27 rfl Tryz.ntmps27 Tryz.results27 rfl fun h0 G0 O0=>?_
  repeat'(first|apply Sp.h|refine Lk.r rfl ?_|refine Rf.mk rfl ?_|refine xA ?_|refine xB ?_|(refine Bd.mk ?_ ?_ <;> intro _)|refine Im.mk fun _=>?_|refine xN ?_|(apply Cl.p (h1);focus(repeat' constructor);done)|(apply Cl.p (h2);focus(repeat' constructor);done))
  all_goals first
   | exact Fin.p rfl rfl
   | exact(hv ⟨by assumption,by assumption,by omega⟩).elim
def laysSort_ren : Go.Shelf.Ren:=⟨fun | 189=>232 | 125=>264 | 257=>263 | 128=>298 | 129=>299 | 294=>290 | 295=>291 | 296=>292 | 297=>293 | 298=>294 | 299=>295 | 216=>212 | 300=>296 | 301=>297 | 328=>306 | 329=>307 | 330=>308 | 331=>309 | 332=>310 | 215=>253 | 343=>316|n=>n,fun | 28=>22 | 3=>3 | 46=>266 | 0=>0 | 51=>310 | 53=>313 | 4=>4 | 183=>331 | 182=>330 | 131=>237 | 5=>5 | 9=>9 | 218=>341 | 222=>248 | 228=>350 | 229=>305|n=>n,fun|n=>n⟩
theorem laysSort : Go.Proofs.Lays.n189 Tryz.prog laysSort_ren:={
 mixed:=by kernel_rfl,
 f125:=Tryz.func264.trans (congrArg some (by kernel_rfl)),
 f128:=Tryz.func298.trans (congrArg some (by kernel_rfl)),
 f129:=Tryz.func299.trans (congrArg some (by kernel_rfl)),
 f189:=Tryz.func232.trans (congrArg some (by kernel_rfl)),
 f215:=Tryz.func253.trans (congrArg some (by kernel_rfl)),
 f216:=Tryz.func212.trans (congrArg some (by kernel_rfl)),
 f257:=Tryz.func263.trans (congrArg some (by kernel_rfl)),
 f294:=Tryz.func290.trans (congrArg some (by kernel_rfl)),
 f295:=Tryz.func291.trans (congrArg some (by kernel_rfl)),
 f296:=Tryz.func292.trans (congrArg some (by kernel_rfl)),
 f297:=Tryz.func293.trans (congrArg some (by kernel_rfl)),
 f298:=Tryz.func294.trans (congrArg some (by kernel_rfl)),
 f299:=Tryz.func295.trans (congrArg some (by kernel_rfl)),
 f300:=Tryz.func296.trans (congrArg some (by kernel_rfl)),
 f301:=Tryz.func297.trans (congrArg some (by kernel_rfl)),
 f328:=Tryz.func306.trans (congrArg some (by kernel_rfl)),
 f329:=Tryz.func307.trans (congrArg some (by kernel_rfl)),
 f330:=Tryz.func308.trans (congrArg some (by kernel_rfl)),
 f331:=Tryz.func309.trans (congrArg some (by kernel_rfl)),
 f332:=Tryz.func310.trans (congrArg some (by kernel_rfl)),
 f343:=Tryz.func316.trans (congrArg some (by kernel_rfl)),
 t0:=Tryz.underlying0,
 a0:=Tryz.isAgg0,
 z0:=Tryz.sizeOf0,
 v0:=Tryz.zeroValue0,
 t3:=Tryz.underlying3,
 a3:=Tryz.isAgg3,
 z3:=Tryz.sizeOf3,
 v3:=Tryz.zeroValue3,
 t4:=Tryz.underlying4,
 a4:=Tryz.isAgg4,
 z4:=Tryz.sizeOf4,
 v4:=Tryz.zeroValue4,
 t5:=Tryz.underlying5,
 a5:=Tryz.isAgg5,
 z5:=Tryz.sizeOf5,
 v5:=Tryz.zeroValue5,
 t9:=Tryz.underlying9,
 a9:=Tryz.isAgg9,
 z9:=Tryz.sizeOf9,
 v9:=Tryz.zeroValue9,
 t28:=Tryz.underlying22,
 a28:=Tryz.isAgg22,
 z28:=Tryz.sizeOf22,
 v28:=Tryz.zeroValue22,
 t46:=Tryz.underlying266,
 a46:=Tryz.isAgg266,
 z46:=Tryz.sizeOf266,
 v46:=Tryz.zeroValue266,
 t51:=Tryz.underlying310,
 a51:=Tryz.isAgg310,
 z51:=Tryz.sizeOf310,
 v51:=Tryz.zeroValue310,
 t53:=Tryz.underlying313,
 a53:=Tryz.isAgg313,
 z53:=Tryz.sizeOf313,
 v53:=Tryz.zeroValue313,
 t131:=Tryz.underlying237,
 a131:=Tryz.isAgg237,
 z131:=Tryz.sizeOf237,
 v131:=Tryz.zeroValue237,
 t182:=Tryz.underlying330,
 a182:=Tryz.isAgg330,
 z182:=Tryz.sizeOf330,
 v182:=Tryz.zeroValue330,
 t183:=Tryz.underlying331,
 a183:=Tryz.isAgg331,
 z183:=Tryz.sizeOf331,
 v183:=Tryz.zeroValue331,
 t218:=Tryz.underlying341,
 a218:=Tryz.isAgg341,
 z218:=Tryz.sizeOf341,
 v218:=Tryz.zeroValue341,
 t222:=Tryz.underlying248,
 a222:=Tryz.isAgg248,
 z222:=Tryz.sizeOf248,
 v222:=Tryz.zeroValue248,
 t228:=Tryz.underlying350,
 a228:=Tryz.isAgg350,
 z228:=Tryz.sizeOf350,
 v228:=Tryz.zeroValue350,
 t229:=Tryz.underlying305,
 a229:=Tryz.isAgg305,
 z229:=Tryz.sizeOf305,
 v229:=Tryz.zeroValue305 }
abbrev i1:Int→List AV:=fun x=> [.val (.int .i64 x)]
def srtI(l:List Int) : List Int:=l.mergeSort fun x y=>decide (x≤y)
theorem sortInt_a(v:Value)(T:TypeId)(l:List Int)(hl:l.length≤1000000) : CallA Tryz.prog 232 [.ow v] [arrR v T 1 l i1] fun r own=>r= .tup []∧own= [arrR v T 1 (srtI l) i1] :=
 sortI_a laysSort v T l hl
noncomputable def ddN{α:Type}(l:List α) : Nat→List α
 | 0=> []
 | i+1=>@ite _ (0 < i∧l[i]?=l[i - 1]?) (zC _) (ddN l i) (ddN l i ++ l[i]?.toList)
noncomputable def dd{α:Type}(l:List α) : List α:=ddN l l.length
theorem ddN_eq{α:Type}{l:List α}{i:Nat}(h0:0 < i)(h:l[i]?=l[i - 1]?) : ddN l (i+1)=ddN l i:=by
 rw [ddN];exact @if_pos _ (zC _) ⟨h0,h⟩ _ _ _
theorem ddN_ne{α:Type}{l:List α}{i:Nat}{x:α}(hx:l[i]?=some x)(h:0 < i→l[i]?≠l[i - 1]?) : ddN l (i+1)=ddN l i ++ [x]:=by
 rw [ddN,hx]
 exact @if_neg _ (zC _) (fun e=>h e.1 (by rw [hx];exact e.2)) _ _ _
theorem ddN_len{α:Type}{l:List α} :∀i,(ddN l i).length≤i
 | 0=>Nat.le_refl _
 | i+1=>by
  have:=ddN_len (l:=l) i
  rw [ddN]
  cases l[i]? <;> (split <;> simp <;> omega)
theorem ddN_take{α:Type}{l:List α}{i:Nat}(hi:i≤l.length)(h:∀j,0 < j→j < i→l[j]?≠l[j - 1]?) : ddN l i=l.take i:=by
 induction i with
 | zero=>rfl
 | succ i ih =>
  have hx:=zE (show i < l.length by omega)
  rw [ddN_ne hx (fun h0=>h i h0 (by omega)),ih (by omega) (fun j h1 h2=>h j h1 (by omega)),zK,hx];rfl
abbrev vI (x:Int):List Value:= [.int .i64 x]
theorem vI_map(l:List Int) : (l.map vI).map valR=l.map i1:=by rw [List.map_map];rfl
theorem compactI_a(w:Value)(l:List Int)(hl:l.length≤1000000) : CallA Tryz.prog 233 [.ow w] [arrR w 3 1 l i1] fun q own=>∃w',q= .ow w'∧own= [arrR w' 3 1 (dd l) i1]:=by
 refine CallA.of pg ord233 Tryz.func233 rfl Tryz.ntmps233 Tryz.results233 rfl fun h0 G0 O0=>?_
 by_cases h2:l.length < 2
 ·have he:dd l=l:=by
   rw [dd,ddN_take (Nat.le_refl _) (fun j h1 h3=>by omega),zL]
  rw [he]
  repeat'(first|apply Sp.h|refine Lk.r rfl ?_|refine Rf.mk rfl ?_|refine xA ?_|refine xU ?_|refine xN ?_|fail)
  exact⟨_,_, .one (.same (.z)),_,rfl,rfl⟩
 repeat'(first|apply Sp.h|refine Lk.r rfl ?_|refine Rf.mk rfl ?_|refine xB ?_|refine xU ?_|fail)
 refine CA.loop (fun k:Nat=>⟨[(0, .ow w),(3,it k)],[arrR w 3 1 l i1]⟩) (fun k=>1≤k∧k≤l.length∧∀j,0 < j→j < k→l[j]?≠l[j - 1]?) (fun k=>l.length - k) 1 xE ⟨Nat.le_refl _,by omega,fun j h1 h3=>by omega⟩ ?_
 rintro k ⟨h1,h3,h4⟩
 by_cases hk:k < l.length
 rotate_left
 ·have hke:k=l.length:=by omega
  have he:dd l=l:=by rw [dd,←hke,ddN_take h3 h4,hke,zL]
  rw [he]
  repeat'(first|apply Sp.h|refine Lk.r rfl ?_|refine Rf.mk rfl ?_|refine xB ?_|refine xU ?_|refine xN ?_|fail)
  exact⟨_,_, .one (.same (.z)),_,rfl,rfl⟩
 obtain⟨x,hx⟩:=get_of hk
 obtain⟨y,hy⟩:=get_of (l:=l) (i:=k - 1) (by omega)
 by_cases hxy:x=y
 rotate_left
 ·repeat'(first|apply Sp.h|refine Lk.r rfl ?_|refine Rf.mk rfl ?_|refine xA ?_|refine xB ?_|refine OpK.r rfl ?_|refine xU ?_|refine xI ?_|(apply Ix.r;(focus assumption);(focus omega))|refine xJ ?_|refine xD ?_|refine xO ?_|fail)
  refine PA.lp (k+1) xE ⟨⟨by omega,hk,fun j g1 g2=>?_⟩,by omega⟩
  by_cases hj:j=k
  ·subst hj;rw [hx,hy];exact fun e=>hxy (by cases e;rfl)
  ·exact h4 j g1 (by omega)
 repeat'(first|apply Sp.h|refine Lk.r rfl ?_|refine Rf.mk rfl ?_|refine xA ?_|refine OpK.r rfl ?_|refine xU ?_|refine xI ?_|(apply Ix.r;(focus assumption);(focus omega))|refine xJ ?_|(apply Jx.r;(focus exact rfl);(focus first|omega|(simp;done)|(simp;omega)))|refine xD ?_|refine xO ?_|fail)
 refine CA.loop (fun q:Nat×Nat×List Int=>⟨[(0, .ow w),(3,it q.1),(4, .os w 1 k (l.length - k)),(5,it q.2.1)],[arrR w 3 1 q.2.2 i1]⟩)
  (fun q=>1≤q.2.1∧q.1 < k+q.2.1∧k+q.2.1≤l.length∧q.2.2.length=l.length∧q.2.2.take q.1=ddN l (k+q.2.1)∧q.2.2.drop (k+q.2.1 - 1)=l.drop (k+q.2.1 - 1)) (fun q=>l.length - q.2.1) (k,1,l) xE
  ⟨Nat.le_refl _,by simp only;omega,by simp only;omega,rfl,by simp only;rw [ddN_eq (by omega) (by rw [hx,hy,hxy]),ddN_take h3 h4],rfl⟩ ?_
 rintro⟨i,m,cur⟩ ⟨g1,g2,g3,g4,g5,g6⟩
 simp only at g1 g2 g3 g4 g5 g6
 simp only
 by_cases hm:k+m < l.length
 ·obtain⟨a,ha⟩:=get_of hm
  obtain⟨b,hb⟩:=get_of (l:=l) (i:=k+m - 1) (by omega)
  have hca:cur[k+m]?=some a:=by
   have:=congrArg (fun z=>z[1]?) g6
   simp only [List.getElem?_drop] at this
   rw [show k+m - 1+1=k+m by omega] at this
   rw [this,ha]
  have hcb:cur[k+(m - 1)]?=some b:=by
   have:=congrArg (fun z=>z[0]?) g6
   simp only [List.getElem?_drop,Nat.add_zero] at this
   rw [show k+(m - 1)=k+m - 1 by omega,this,hb]
  have h7:cur.drop (k+m)=l.drop (k+m):=by
   have:=congrArg (List.drop 1) g6
   rw [List.drop_drop,List.drop_drop] at this
   rwa [show k+m - 1+1=k+m by omega] at this
  obtain⟨z,hz⟩:=get_of (l:=cur) (i:=i) (by omega)
  have hm1:((m:Int) - 1)=((m - 1:Nat):Int):=by omega
  by_cases hab:a=b
  ·repeat'(first|apply Sp.h|refine Lk.r rfl ?_|refine Rf.mk rfl ?_|refine xA ?_|refine OpK.r rfl ?_|refine xU ?_|refine xJ ?_|refine Rf.mk ⟨rfl,rfl⟩ ?_|refine xD ?_|(apply Sx.r;(focus exact rfl);(focus first|omega|(simp;omega)))|refine xO ?_|(apply Sx.r;(focus assumption);(focus first|omega|(simp;omega)))|fail)
   exact PA.lp (i,m+1,cur) xE ⟨⟨by simp only;omega,by simp only;omega,by simp only;omega,g4,by simp only;rw [←Nat.add_assoc,ddN_eq (by omega) (by rw [ha,hb,hab])];exact g5,by simp only;rw [show k+(m+1) - 1=k+m by omega];exact h7⟩,by simp only;omega⟩
  ·repeat'(first|apply Sp.h|refine Lk.r rfl ?_|refine Rf.mk rfl ?_|refine xA ?_|refine xB ?_|refine OpK.r rfl ?_|refine xU ?_|refine xI ?_|refine xJ ?_|refine xV ?_|refine Rf.mk ⟨rfl,rfl⟩ ?_|refine Up.r rfl ?_|refine xD ?_|(apply Sx.r;(focus exact rfl);(focus first|omega|(simp;omega)))|refine xO ?_|(apply Sx.r;(focus assumption);(focus first|omega|(simp;omega)))|fail)
   have h8:(cur.set i a).take (i+1)=cur.take i ++ [a]:=by
    rw [zK,List.getElem?_set,if_pos rfl,if_pos (by omega),List.take_set_of_le (Nat.le_refl _)];rfl
   refine PA.lp (i+1,m+1,cur.set i a) xE ⟨⟨by simp only;omega,by simp only;omega,by simp only;omega,by simp only;rw [zY];exact g4, ?_, ?_⟩,by simp only;omega⟩
   ·simp only
    rw [h8,g5,←Nat.add_assoc,ddN_ne ha (fun _=>by rw [ha,hb];exact fun e=>hab (by cases e;rfl))]
   ·simp only
    rw [show k+(m+1) - 1=k+m by omega,List.drop_set_of_lt (by omega)];exact h7
 ·have hme:k+m=l.length:=by omega
  rw [hme] at g5
  (repeat'(first|(show CA _ _ (Code.region 14 _ _) _ _;apply Stopped.out)|apply Sp.h|refine Lk.r rfl ?_|refine Rf.mk rfl ?_|refine xB ?_|fail));any_goals apply Stopped.mk
  apply CA.retype (m:=cur.map vI) (g:=valR)
  focus(repeat constructor)
  focus exact vI_map cur
  apply CA.toX 0
  focus rfl
  focus(repeat constructor)
  intro hcap
  rw [List.length_map] at hcap
  (repeat'(first|(show CA _ _ Code.ret _ _;apply Stopped.out)|apply Sp.h|refine Lk.r rfl ?_|refine Rf.mk rfl ?_|refine xP ?_|refine Rf.mk ⟨rfl,rfl⟩ ?_|refine Rf.mk ⟨rfl,rfl,rfl⟩ ?_|(apply Jx.r;(focus exact rfl);(focus first|omega|(simp;done)|(simp;omega)))|(apply TkX.r;(focus repeat constructor))|(apply ExX.short;(focus rfl);(focus first|omega|(simp <;> omega));(focus first|omega|(simp <;> omega)))|fail));any_goals apply Stopped.mk
  apply CA.retype (m:=dd l) (g:=i1)
  focus(repeat constructor)
  focus(rw [dd,←g5,←vI_map,List.map_take];simp [List.take_take])
  repeat'(first|apply Sp.h|refine Lk.r rfl ?_|refine xN ?_|fail)
  exact⟨_,_, .one (.same (.z)),_,rfl,rfl⟩
end Go.Proofs.YtmjllbjfkafhdaaGreatDoor
