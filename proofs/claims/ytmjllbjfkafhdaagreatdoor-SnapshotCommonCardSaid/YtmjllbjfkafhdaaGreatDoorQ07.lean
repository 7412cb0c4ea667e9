/- Part 7 of the ground of this proof: what its texts say of the model, the program and the plain data; conditions: those that are named. -/
import Derived.Lib.AppendZeros
import Derived.Laws.Externs
import Derived.Maps.RangeRun
import Derived.MapKept
import Derived.Lib.Bytealg
import Derived.Test.YtmjllbjfkafhdaaGreatDoorQ06
namespace Go.CF
open Go
section
variable {P:Program} {tt:Nat→Option TI} {en:Nat→Bool} {n:Nat} {ty t u:TypeId} {env:Env} {h:Heap} {x y:Operand}
theorem ld_copy0(G:PgOK P tt en){ti te:TI}{e dl dc m:Nat}{p:Option Addr}{news:List Value}{xv:Value}{K:Value→Heap→Prop}(ht:tt t=some ti)(hk:ti.kind= .slice e)(hte:tt e=some te)
  (hx:ev env x=some (.slice p dl dc)) (hy:ev env y=some xv) (hs:Sl h xv m news) (hm:min m dl=0) (k:K (.int .i64 (0:Nat)) h):Ld P n (.call { callee:= .builtin .copy,args:=#[x,y],argTypes:=#[t,u] }) ty env h K:=by
 intro a w oo next Q ha hw hop hty hn
 obtain⟨i,dd,hi,hd,hi1,hi2,hi3,_⟩:=(G.ok _ _ hte).ok
 have hu:=(G.ok _ _ ht).slice hk
 obtain⟨q,qc,rfl⟩:=hs.shape
 have hr:=run_copy0 (P:=P) w t u ty e p q dl dc m qc hu hi hm
 have hrun:(execOp a.eval (mkOp (.call { callee:= .builtin .copy,args:=#[x,y],argTypes:=#[t,u] }) ty)).run P w= .ok (.value (goInt (0:Nat))) w:=by
  simp [mkOp,execOp,resolve,invoke,builtin,ha.ev hx,ha.ev hy,hr]
 unfold Oper.wp
 rw [exec_mk,hop,hty,hrun]
 exact hn _ w (Same.refl w) (hw▸k)
end
section
variable {Γ:Cx} {k:List KI} {e:EA} {o:List Res} {N:NA} {c:Cls} {d:Tmp} {ty:TypeId} {x y z:Operand} {t u:TypeId} {kk:IntKind} {i:Int}
structure Cpy (Γ:Cx) (c:Cls) (d:Tmp) (t u:TypeId) (x y:Operand) (ty:TypeId) (e:EA) (o:List Res) (N:NA) (a b:AV):Prop where
 h:evA e x=some a→evA e y=some b→isLoud c=true→SA Γ c (some d) (.call { callee:= .builtin .copy,args:=#[x,y],argTypes:=#[t,u] }) ty e o N
instance : Sp (SA Γ c (some d) (.call { callee:= .builtin .copy,args:=#[x,y],argTypes:=#[t,u] }) ty e o N) (Rf (isLoud c=true) (Lk (evA e x) fun a=>Lk (evA e y) fun b=>Cpy Γ c d t u x y ty e o N a b)):=⟨fun⟨hc,_,ha,_,hb,h⟩=>h.h ha hb hc⟩
theorem own_seg{h h':Heap}{b of cap len T sz:Nat}{l X:List Value}{R:List Value}{j cnt:Nat}(hw:Own h (.slice (some ⟨b,of,none⟩) len cap) T sz len R)(hX:X.length=cnt * sz)(hj:j+cnt≤len)
  (hu:Upd h b T (l.take (of+j * sz) ++ X ++ l.drop (of+j * sz+cnt * sz)) h') (hfit:of+cap * sz≤l.length) (hlc:len≤cap) (hR:(l.drop of).take (len * sz)=R):Own h' (.slice (some ⟨b,of,none⟩) len cap) T sz len (R.take (j * sz) ++ X ++ R.drop (j * sz+cnt * sz)):=by
 have hjs:j * sz+cnt * sz≤len * sz:=by rw [←Nat.add_mul];exact zU _ hj
 have hls:len * sz≤cap * sz:=zU _ hlc
 have hl:=hw.len_vs
 refine⟨by simp only [zP,zN,List.length_drop];omega, .inr ⟨b,of,cap,_,rfl,hu.blk, ?_,hlc, ?_⟩⟩
 ·simp only [zP,zN,List.length_drop];omega
 ·rw [←hX,own_write (by rw [hX];exact hjs) (by omega),hR]
theorem Upd.fpx{h h':Heap}{b:Nat}{T:TypeId}{l:List Value}(hu:Upd h b T l h'){O:Nat→Prop}(ho:O b) : FPx (fun y=>¬O y) h h' :=
 ⟨hu.stp.size,fun y hy hl=>hu.stp.same y hl (fun hm=>hy (by rw [zH.1 hm];exact ho))⟩
theorem con_seg{h':Heap}{hh:Heap}{env:Env}{G:Nat→Prop}{R R':Res}{rest:List Res}{O:Nat→Prop}{Os:List (Nat→Prop)}{b:Nat}{T:TypeId}{l:List Value}(cn:Con Γ ⟨e,R :: rest⟩ env hh G (O :: Os))(hu:Upd hh b T l h')(ho:O b)(hr:FPx G hh h'→R'.R h' O G) : Con Γ ⟨e,R' :: rest⟩ env h' G (O :: Os):=by
 have hx:=hu.fpx ho
 have hg:FPx G hh h':=hx.mono fun y hy hoy=>(cn.hp.o O (by simp) y hoy).2.2 hy
 exact cn.upd (R':=R') (O':=O) hx (fun y hy=>⟨Nat.lt_of_lt_of_le (cn.hp.o O (by simp) y hy).1 hu.stp.size, .inl hy⟩) (hr hg)
instance {v:Value} {s j m:Nat} {b:AV} : Sp (Cpy Γ c d t u x y ty e o N (.os v s j m) b) (Lk (slE Γ.tt t) fun p=>Src o b p.2.size fun q g=>TkA o v fun T sz l f rest=>Rf (T=p.1∧sz=p.2.size∧s=sz) (Mp q g f fun q' =>
  N ((d, .val (.int .i64 (min q'.length m:Nat))) :: e) (arrR v T sz (l.take j ++ q'.take (min q'.length m) ++ l.drop (j+min q'.length m)) f :: rest))):=⟨fun⟨p,hp,β,q,g,⟨α,T,sz,l,f,rest,tk,⟨hT,hz,hs⟩,q',hq',hn⟩,hsrc⟩=>⟨fun ha hb hc=>⟨fun env hh G Os cn=>by
 obtain⟨w,g1,p0,len,cap,rfl,hjm,rfl⟩:=cn.get ha
 obtain⟨w2,g2,r2⟩:=cn.get hb
 obtain⟨srows,hsl,hsr⟩:=hsrc cn.hp r2
 have hql:q'.length=q.length:=by have:=congrArg List.length hq';simpa using this
 have hsr':=hsr.map hq'
 subst hs;subst hT;subst hz
 obtain⟨ti,t1,t2,t3⟩:=slE_spec hp
 obtain⟨O,Os',cn2⟩:=cn.take tk
 obtain⟨⟨ho,rows,hw,hr⟩,hrest⟩:=cn2.hp.own
 by_cases h0:min q'.length m=0
 ·refine .ofLd hc (ld_copy0 Γ.ok t1 t2 t3 g1 g2 hsl (by rw [←hql];exact h0) ?_)
  rw [h0,List.take_zero,List.append_nil,Nat.add_zero,List.take_append_drop] at hn
  exact CN.mk (cn2.put d (a:= .val (.int .i64 (0:Nat))) rfl) hn
 ·rcases hw.ok with⟨e1,e2⟩|⟨b,of,cap',L,e1,hbk,h1,h2,h3⟩
  ·cases e1;omega
  ·cases e1
   have hsub:subA (some ⟨b,of,none⟩) p.2.size j cap=some ⟨b,of+j * p.2.size,none⟩:=by
    unfold subA;rw [if_neg (by omega)];simp [addr_add]
   rw [hsub] at g1
   have hlen:=hw.len_vs
   have hssz:=hsr.sz
   have hsfl:srows.flatten.length=q.length * p.2.size:=by rw [hsr.flen]
   have hmin:min q'.length m * p.2.size≤q.length * p.2.size:=zU _ (by omega)
   have hjs:j * p.2.size+min q'.length m * p.2.size≤l.length * p.2.size:=by rw [←Nat.add_mul];exact zU _ (by omega)
   have hls:l.length * p.2.size≤cap * p.2.size:=zU _ h2
   refine .ofLd hc (ld_copy Γ.ok t1 t2 t3 g1 g2 hbk hsl hsfl (fun v hv=>hsr.one v (zW hv)) (by rw [←hql];omega) fun h' hsz hu=>?_)
   rw [←hql] at hu ⊢
   have hob:O b:=(ho b).2 (by simp [blkOf])
   have hX:(srows.flatten.take (min q'.length m * p.2.size)).length=min q'.length m * p.2.size:=by rw [zN];omega
   have hown:=own_seg (j:=j) hw hX (by omega) hu h1 h2 h3
   have hlen2:(l.take j ++ q'.take (min q'.length m) ++ l.drop (j+min q'.length m)).length=l.length:=by simp;omega
   have hfl:(rows.take j ++ srows.take (min q'.length m) ++ rows.drop (j+min q'.length m)).flatten=rows.flatten.take (j * p.2.size) ++ srows.flatten.take (min q'.length m * p.2.size) ++ rows.flatten.drop (j * p.2.size+min q'.length m * p.2.size):=by
    rw [List.flatten_append,List.flatten_append,flat_take rows j hr.sz,flat_take srows _ hssz,flat_drop rows _ hr.sz,Nat.add_mul]
   have c3:=con_seg (R':=arrR (.slice (some ⟨b,of,none⟩) l.length cap) p.1 p.2.size (l.take j ++ q'.take (min q'.length m) ++ l.drop (j+min q'.length m)) f) cn2 hu hob (fun hg=>⟨ho,rows.take j ++ srows.take (min q'.length m) ++ rows.drop (j+min q'.length m),by rw [hlen2,hfl];exact hown,(((hr.take j).app (hsr'.take _)).app (hr.drop _)).stp hg⟩)
   exact CN.mk (c3.put d (a:= .val _) rfl) hn⟩⟩⟩
end
end Go.CF
set_option maxRecDepth 100000
set_option maxHeartbeats 80000000
namespace Go.CF
open Go
section
variable {Γ:Cx} {k:List KI} {e:EA} {o:List Res} {N:NA} {c:Cls} {d:Tmp} {ty:TypeId} {x y z:Operand} {t u:TypeId} {kk:IntKind} {i:Int}
structure CpS (o:List Res) (v:Value) (A:Prop) (X:TypeId→Nat→List (List Value)→Nat→List Res→Prop):Prop where
 ok:A∨∃T sz L m rest,Take o (arrX v T sz L m) rest∧X T sz L m rest
theorem CpS.all{α:Type}{o rest:List Res}{v:Value}{A:Prop}{X:TypeId→Nat→List (List Value)→Nat→List Res→Prop}{T:TypeId}{sz:Nat}{l:List α}{f:α→List AV}(_:Take o (arrR v T sz l f) rest)(h:A) : CpS o v A X:=⟨.inl h⟩
theorem CpS.part{o rest:List Res}{v:Value}{A:Prop}{X:TypeId→Nat→List (List Value)→Nat→List Res→Prop}{T:TypeId}{sz m:Nat}{L:List (List Value)}(tk:Take o (arrX v T sz L m) rest)(h:X T sz L m rest) : CpS o v A X:=⟨.inr ⟨T,sz,L,m,rest,tk,h⟩⟩
structure Cpg (Γ:Cx) (c:Cls) (d:Tmp) (t u:TypeId) (x y:Operand) (ty:TypeId) (e:EA) (o:List Res) (N:NA) (v:Value) (s j m:Nat) (b:AV):Prop where
 h:Lk (slE Γ.tt t) fun p=>Src o b p.2.size fun q g=>TkA o v fun T sz l f rest=>Rf (T=p.1∧sz=p.2.size∧s=sz) (Mp q g f fun q' =>
  N ((d, .val (.int .i64 (min q'.length m:Nat))) :: e) (arrR v T sz (l.take j ++ q'.take (min q'.length m) ++ l.drop (j+min q'.length m)) f :: rest))
instance {v:Value} {s j m:Nat} {b:AV} : Sp (Cpg Γ c d t u x y ty e o N v s j m b) (Lk (slE Γ.tt t) fun p=>Src o b p.2.size fun q g=>TkA o v fun T sz l f rest=>Rf (T=p.1∧sz=p.2.size∧s=sz) (Mp q g f fun q' =>
  N ((d, .val (.int .i64 (min q'.length m:Nat))) :: e) (arrR v T sz (l.take j ++ q'.take (min q'.length m) ++ l.drop (j+min q'.length m)) f :: rest))):=⟨fun h=>⟨h⟩⟩
instance (priority:=1100) {v:Value} {s j m s' j' m':Nat} : Sp (Cpy Γ c d t u x y ty e o N (.os v s j m) (.os v s' j' m')) (CpS o v (Cpg Γ c d t u x y ty e o N v s j m (.os v s' j' m')) fun T sz L M rest=>Lk (slE Γ.tt t) fun p=>Rf (T=p.1∧sz=p.2.size∧s=sz) (Rf (s'=sz)
  (Om (j'+min m' m≤L.length∧j≤L.length∧j+min m' m=M) (N ((d, .val (.int .i64 (min m' m:Nat))) :: e) (arrR v T sz (L.take j ++ (L.drop j').take (min m' m)) valR :: rest))))):=⟨fun⟨hor⟩=>by
 rcases hor with hA|⟨T,sz,L,M,rest,tk,p,hp,⟨hT,hz,hs⟩,hs',⟨hc1,hc2,hc3⟩,hn⟩
 ·exact Sp.h hA.h
 ·subst hs;subst hT;subst hz;subst hs'
  refine⟨fun ha hb hc=>⟨fun env hh G Os cn=>?_⟩⟩
  obtain⟨w,g1,p0,len,cap,rfl,hjm,rfl⟩:=cn.get ha
  obtain⟨w2,g2,p1,len1,cap1,e2,hjm2,rfl⟩:=cn.get hb
  cases e2
  obtain⟨ti,t1,t2,t3⟩:=slE_spec hp
  obtain⟨O,Os',cn2⟩:=cn.take tk
  obtain⟨⟨ho,hv,hLM,junk,hw⟩,hrest⟩:=cn2.hp.own
  rcases hw.ok with⟨e1,e2⟩|⟨b,of,cap',l,e1,hbk,h1,h2,h3⟩
  ·cases e1
   have hL0:L.length=0:=by omega
   have hm0:min m' m=0:=by omega
   refine .ofLd hc (ld_copy0 Γ.ok t1 t2 t3 g1 g2 (m:=m') (news:= []) ⟨.inl ⟨_,_,by rw [show m'=0 by omega],by omega,rfl⟩⟩ hm0 ?_)
   have hLn:L= []:=zQ hL0
   subst hLn
   rw [hm0,List.take_nil,List.drop_nil,List.take_nil,List.append_nil] at hn
   have hM:M=0:=by omega
   subst hM
   have c3:Con Γ ⟨e,arrR (.slice none 0 0) p.1 p.2.size [] valR :: rest⟩ env hh G (O :: Os'):=⟨cn2.hp.perm ⟨⟨ho,[],by simpa using(Own.nil:Own hh _ p.1 p.2.size 0 []),Rows.nil⟩,hrest⟩ (List.Perm.refl _),cn2.env,cn2.nf⟩
   exact CN.mk (c3.put d (a:= .val (.int .i64 (0:Nat))) rfl) hn
  ·cases e1
   have hfl:=hv.flen
   have hlen:=hw.len_vs
   have hMs:L.length * p.2.size≤M * p.2.size:=zU _ hLM
   have hMc:M * p.2.size≤cap * p.2.size:=zU _ h2
   by_cases h0:min m' m=0
   ·have hjM:j=M:=by omega
    have hLe:L.length=M:=by omega
    have hr0:∃news,Sl hh (.slice (subA (some ⟨b,of,none⟩) p.2.size j' cap) m' (cap - j')) m' news:=by
     rcases Nat.eq_zero_or_pos m' with hz|hz
     ·exact⟨[],⟨.inl ⟨_,_,by rw [hz],hz,rfl⟩⟩⟩
     ·refine⟨(l.drop (of+j' * p.2.size)).take (m' * p.2.size),⟨.inr ⟨b,of+j' * p.2.size,cap - j', ?_,hz,by omega,hbk.lt,hbk.cels _ _⟩⟩⟩
      unfold subA;rw [if_neg (by omega)];simp [addr_add]
    obtain⟨news,hsl⟩:=hr0
    refine .ofLd hc (ld_copy0 Γ.ok t1 t2 t3 g1 g2 hsl h0 ?_)
    rw [h0,List.take_zero,List.append_nil,List.take_of_length_le (by omega)] at hn
    have hjk:junk= []:=zQ (by rw [zP] at hlen;rw [hLe] at hfl;omega)
    subst hjk
    have c3:Con Γ ⟨e,arrR (.slice (some ⟨b,of,none⟩) M cap) p.1 p.2.size L valR :: rest⟩ env hh G (O :: Os'):=⟨cn2.hp.perm ⟨⟨ho,L,by rw [hLe];simpa using hw,hv.rows hh G⟩,hrest⟩ (List.Perm.refl _),cn2.env,cn2.nf⟩
    exact CN.mk (c3.put d (a:= .val (.int .i64 (0:Nat))) rfl) hn
   ·have hsub:∀q,q < cap→subA (some ⟨b,of,none⟩) p.2.size q cap=some ⟨b,of+q * p.2.size,none⟩:=fun q hq=>by
     unfold subA;rw [if_neg (by omega)];simp [addr_add]
    rw [hsub j (by omega)] at g1
    rw [hsub j' (by omega)] at g2
    have hjs:j' * p.2.size+min m' m * p.2.size≤L.length * p.2.size:=by rw [←Nat.add_mul];exact zU _ hc1
    have hjd:j * p.2.size+min m' m * p.2.size=M * p.2.size:=by rw [←Nat.add_mul,hc3]
    have hm's:min m' m * p.2.size≤m' * p.2.size:=zU _ (by omega)
    -- what is read
    have hseg:((l.drop (of+j' * p.2.size)).take (m' * p.2.size)).take (min m' m * p.2.size)=(L.flatten.drop (j' * p.2.size)).take (min m' m * p.2.size):=by
     have e9:L.flatten=((l.drop of).take (M * p.2.size)).take (L.length * p.2.size):=by rw [h3,←hfl,List.take_left]
     rw [e9]
     simp only [List.take_take,List.drop_take,List.drop_drop]
     congr 1
     omega
    have hm'l:of+j' * p.2.size+m' * p.2.size≤l.length:=by
     have:j' * p.2.size+m' * p.2.size≤M * p.2.size:=by rw [←Nat.add_mul];exact zU _ (by omega)
     omega
    have hsrc:Sl hh (.slice (some ⟨b,of+j' * p.2.size,none⟩) m' (cap - j')) m' ((l.drop (of+j' * p.2.size)).take (m' * p.2.size)):=⟨.inr ⟨b,of+j' * p.2.size,cap - j',rfl,by omega,by omega,hbk.lt,hbk.cels _ _⟩⟩
    have hX1:((L.flatten.drop (j' * p.2.size)).take (min m' m * p.2.size)).length=min m' m * p.2.size:=by rw [zN,List.length_drop];omega
    have hone:∀w∈L.flatten,w.oneCell'=true:=fun w hw=>by
     obtain⟨r,hr,hw⟩:=List.mem_flatten.1 hw
     exact hv.one r hr w hw
    refine .ofLd hc (ld_copy Γ.ok t1 t2 t3 g1 g2 hbk hsrc (by rw [zN,List.length_drop];omega) (fun w hw=>by rw [hseg] at hw;exact hone w (List.mem_of_mem_drop (zW hw))) (by omega) fun h' hsz hu=>?_)
    rw [hseg] at hu
    have hob:O b:=(ho b).2 (by simp [blkOf])
    have hown:=own_seg (j:=j) hw hX1 (by omega) hu h1 h2 h3
    have hLj:j * p.2.size≤L.length * p.2.size:=zU _ hc2
    rw [List.take_append_of_le_length (by omega),List.drop_of_length_le (l:=L.flatten ++ junk) (by rw [hlen];omega),List.append_nil] at hown
    have hvn:RowsV p.2.size (L.take j ++ (L.drop j').take (min m' m)):=⟨fun r hr=>by
      rcases zV.1 hr with h|h
      ·exact hv.sz r (zW h)
      ·exact hv.sz r (List.mem_of_mem_drop (zW h)),fun r hr=>by
      rcases zV.1 hr with h|h
      ·exact hv.one r (zW h)
      ·exact hv.one r (List.mem_of_mem_drop (zW h))⟩
    have hfl2:(L.take j ++ (L.drop j').take (min m' m)).flatten=L.flatten.take (j * p.2.size) ++ (L.flatten.drop (j' * p.2.size)).take (min m' m * p.2.size):=by
     rw [List.flatten_append,flat_take L j hv.sz,flat_take _ _ (fun r hr=>hv.sz r (List.mem_of_mem_drop hr)),flat_drop L _ hv.sz]
    have hln:(L.take j ++ (L.drop j').take (min m' m)).length=M:=by simp;omega
    have c3:=con_seg (R':=arrR (.slice (some ⟨b,of,none⟩) M cap) p.1 p.2.size (L.take j ++ (L.drop j').take (min m' m)) valR) cn2 hu hob (fun _=>⟨ho,_,by rw [hln,hfl2];exact hown,hvn.rows h' G⟩)
    exact CN.mk (c3.put d (a:= .val _) rfl) hn⟩
end
section
variable {Γ:Cx} {k:List KI} {e:EA} {o:List Res} {N:NA} {c:Cls} {d:Tmp} {ty:TypeId} {x y z:Operand} {t u:TypeId} {kk:IntKind} {i:Int}
structure Clr (Γ:Cx) (c:Cls) (t:TypeId) (x:Operand) (ty:TypeId) (e:EA) (o:List Res) (N:NA) (a:AV):Prop where
 h:evA e x=some a→isLoud c=true→SA Γ c none (.call { callee:= .builtin .clear,args:=#[x],argTypes:=#[t] }) ty e o N
instance : Sp (SA Γ c none (.call { callee:= .builtin .clear,args:=#[x],argTypes:=#[t] }) ty e o N) (Rf (isLoud c=true) (Lk (evA e x) fun a=>Clr Γ c t x ty e o N a)):=⟨fun⟨hc,_,ha,h⟩=>h.h ha hc⟩
instance {v:Value} {s j m:Nat} : Sp (Clr Γ c t x ty e o N (.os v s j m)) (Lk (slE Γ.tt t) fun p=>TkX o v fun T sz L M rest=>Rf (T=p.1∧sz=p.2.size∧s=sz) (Rf (p.2.zero.cells.toList.all Value.oneCell'=true∧p.2.zero.cells.size=p.2.size) (Om (0 < m∧j≤L.length) (N e (arrX v T sz (L.take j) M :: rest))))):=⟨fun⟨p,hp,T,sz,L,M,rest,tk,⟨hT,hz,hs⟩,⟨hz1,hz2⟩,⟨hm,hjL⟩,hn⟩=>⟨fun ha hc=>⟨fun env hh G Os cn=>by
 subst hs;subst hT;subst hz
 obtain⟨w,g1,p0,len,cap,rfl,hjm,rfl⟩:=cn.get ha
 obtain⟨ti,t1,t2,t3⟩:=slE_spec hp
 obtain⟨O,Os',cn2⟩:=cn.take tk
 obtain⟨⟨ho,hv,hLM,junk,hw⟩,hrest⟩:=cn2.hp.own
 rcases hw.ok with⟨e1,e2⟩|⟨b,of,cap',l,e1,hbk,h1,h2,h3⟩
 ·cases e1;omega
 ·cases e1
  obtain⟨q,rfl⟩:∃q,m=q+1:=⟨m - 1,by omega⟩
  have hMc:M * p.2.size≤cap * p.2.size:=zU _ h2
  have hjs:j * p.2.size+(q+1) * p.2.size≤M * p.2.size:=by rw [←Nat.add_mul];exact zU _ hjm
  have hsub:subA (some ⟨b,of,none⟩) p.2.size j cap=some ⟨b,of+j * p.2.size,none⟩:=by unfold subA;rw [if_neg (by omega)];simp [addr_add]
  rw [hsub] at g1
  refine St.clearS Γ.ok t1 t2 t3 (fun u hu=>List.all_eq_true.1 hz1 u hu) hz2 g1 hbk (by omega) hc fun h' l' hu hsz hl' hsame=>?_
  have hob:O b:=(ho b).2 (by simp [blkOf])
  have hfl:=hv.flen
  have hLjs:j * p.2.size≤L.length * p.2.size:=zU _ hjL
  have hvt:RowsV p.2.size (L.take j):=⟨fun r hr=>hv.sz r (zW hr),fun r hr=>hv.one r (zW hr)⟩
  have hpre:(l'.drop of).take (j * p.2.size)=(L.take j).flatten:=by
   rw [flat_take L j hv.sz]
   have e9:L.flatten.take (j * p.2.size)=(l.drop of).take (j * p.2.size):=by
    have e8:((l.drop of).take (M * p.2.size)).take (j * p.2.size)=(L.flatten ++ junk).take (j * p.2.size):=by rw [h3]
    rw [List.take_append_of_le_length (by omega),List.take_take,Nat.min_eq_left (by omega)] at e8
    exact e8.symm
   rw [e9]
   apply List.ext_getElem?
   intro r
   simp only [List.getElem?_take,List.getElem?_drop]
   split
   ·exact hsame _ (by omega)
   ·rfl
  have c3:=con_seg (R':=arrX (.slice (some ⟨b,of,none⟩) M cap) p.1 p.2.size (L.take j) M) cn2 hu hob (fun _=>⟨ho,hvt,by rw [zN];omega,((l'.drop of).take (M * p.2.size)).drop (j * p.2.size),by rw [zP,←hpre];simp only [zN,List.length_drop,hl'];omega, .inr ⟨b,of,cap,l',rfl,hu.blk,by omega,h2,by
   rw [←hpre]
   conv=>lhs;rw [←List.take_append_drop (j * p.2.size) ((l'.drop of).take (M * p.2.size)),List.take_take,Nat.min_eq_left (by omega)]⟩⟩)
  exact CN.mk c3 hn⟩⟩⟩
instance (priority:=1050) {v:Value} {s j m:Nat} {b:AV} : Sp (Cpy Γ c d t u x y ty e o N (.os v s j m) b) (CpS o v (Cpg Γ c d t u x y ty e o N v s j m b) fun T sz L M rest=>Lk (slE Γ.tt t) fun p=>Rf (T=p.1∧sz=p.2.size∧s=sz) (Src o b p.2.size fun q g=>Mp q g valR fun q' =>
  Om (j≤L.length) (N ((d, .val (.int .i64 (min q'.length m:Nat))) :: e) (arrX v T sz (L.take j ++ q'.take (min q'.length m)) M :: rest)))):=⟨fun⟨hor⟩=>by
 rcases hor with hA|⟨T,sz,L,M,rest,tk,p,hp,⟨hT,hz,hs⟩,β,q,g,⟨q',hq',hc2,hn⟩,hsrc⟩
 ·exact Sp.h hA.h
 ·subst hs;subst hT;subst hz
  refine⟨fun ha hb hc=>⟨fun env hh G Os cn=>?_⟩⟩
  obtain⟨w,g1,p0,len,cap,rfl,hjm,rfl⟩:=cn.get ha
  obtain⟨w2,g2,r2⟩:=cn.get hb
  obtain⟨srows,hsl,hsr⟩:=hsrc cn.hp r2
  have hql:q'.length=q.length:=by have:=congrArg List.length hq';simpa using this
  have hsr':=hsr.map hq'
  have hsv:=RowsV.of hsr'
  have e9:=rows_val hsr'
  subst e9
  obtain⟨ti,t1,t2,t3⟩:=slE_spec hp
  obtain⟨O,Os',cn2⟩:=cn.take tk
  obtain⟨⟨ho,hv,hLM,junk,hw⟩,hrest⟩:=cn2.hp.own
  have hvt:RowsV p.2.size (L.take j ++ srows.take (min srows.length m)):=⟨fun r hr=>by
    rcases zV.1 hr with h|h
    ·exact hv.sz r (zW h)
    ·exact hsv.sz r (zW h),fun r hr=>by
    rcases zV.1 hr with h|h
    ·exact hv.one r (zW h)
    ·exact hsv.one r (zW h)⟩
  have hfl:=hv.flen
  have hsfl:=hsv.flen
  have hlen:=hw.len_vs
  have hfl2:(L.take j ++ srows.take (min srows.length m)).flatten=L.flatten.take (j * p.2.size) ++ srows.flatten.take (min srows.length m * p.2.size):=by
   rw [List.flatten_append,flat_take L j hv.sz,flat_take _ _ hsv.sz]
  have hLj:j * p.2.size≤L.length * p.2.size:=zU _ hc2
  rcases hw.ok with⟨e1,e2⟩|⟨b,of,cap',l,e1,hbk,h1,h2,h3⟩
  ·cases e1
   have h0:min srows.length m=0:=by omega
   refine .ofLd hc (ld_copy0 Γ.ok t1 t2 t3 g1 g2 hsl (by rw [←hql];exact h0) ?_)
   rw [h0,List.take_zero,List.append_nil] at hn
   rw [h0,List.take_zero,List.append_nil] at hvt
   have c3:Con Γ ⟨e,arrX (.slice none 0 0) p.1 p.2.size (L.take j) M :: rest⟩ env hh G (O :: Os'):=⟨cn2.hp.perm ⟨⟨ho,hvt,by rw [zN];omega,L.flatten.drop (j * p.2.size) ++ junk,by rw [←List.append_assoc,flat_take L j hv.sz,List.take_append_drop];exact hw⟩,hrest⟩ (List.Perm.refl _),cn2.env,cn2.nf⟩
   exact CN.mk (c3.put d (a:= .val (.int .i64 (0:Nat))) rfl) hn
  ·cases e1
   by_cases h0:min srows.length m=0
   ·refine .ofLd hc (ld_copy0 Γ.ok t1 t2 t3 g1 g2 hsl (by rw [←hql];exact h0) ?_)
    rw [h0,List.take_zero,List.append_nil] at hn
    rw [h0,List.take_zero,List.append_nil] at hvt
    have c3:Con Γ ⟨e,arrX (.slice (some ⟨b,of,none⟩) M cap) p.1 p.2.size (L.take j) M :: rest⟩ env hh G (O :: Os'):=⟨cn2.hp.perm ⟨⟨ho,hvt,by rw [zN];omega,L.flatten.drop (j * p.2.size) ++ junk,by rw [←List.append_assoc,flat_take L j hv.sz,List.take_append_drop];exact hw⟩,hrest⟩ (List.Perm.refl _),cn2.env,cn2.nf⟩
    exact CN.mk (c3.put d (a:= .val (.int .i64 (0:Nat))) rfl) hn
   ·have hsub:subA (some ⟨b,of,none⟩) p.2.size j cap=some ⟨b,of+j * p.2.size,none⟩:=by unfold subA;rw [if_neg (by omega)];simp [addr_add]
    rw [hsub] at g1
    have hMc:M * p.2.size≤cap * p.2.size:=zU _ h2
    have hjs:j * p.2.size+min srows.length m * p.2.size≤M * p.2.size:=by rw [←Nat.add_mul];exact zU _ (by omega)
    have hmin:min srows.length m * p.2.size≤srows.length * p.2.size:=zU _ (by omega)
    have hone:∀w∈srows.flatten,w.oneCell'=true:=fun w hw=>by
     obtain⟨r,hr,hw⟩:=List.mem_flatten.1 hw
     exact hsv.one r hr w hw
    refine .ofLd hc (ld_copy Γ.ok t1 t2 t3 g1 g2 hbk hsl (by rw [hsfl,hql]) (fun w hw=>hone w (zW hw)) (by rw [←hql];omega) fun h' hsz hu=>?_)
    rw [←hql] at hu ⊢
    have hob:O b:=(ho b).2 (by simp [blkOf])
    have hX:(srows.flatten.take (min srows.length m * p.2.size)).length=min srows.length m * p.2.size:=by rw [zN];omega
    have hown:=own_seg (j:=j) hw hX (by omega) hu h1 h2 h3
    rw [List.take_append_of_le_length (by omega),←hfl2] at hown
    have c3:=con_seg (R':=arrX (.slice (some ⟨b,of,none⟩) M cap) p.1 p.2.size (L.take j ++ srows.take (min srows.length m)) M) cn2 hu hob (fun _=>⟨ho,hvt,by rw [zP,zN,zN];omega,_,hown⟩)
    exact CN.mk (c3.put d (a:= .val _) rfl) hn⟩
theorem CA.ofX{y:Code}(q:Tmp){v:Value}{T sz m:Nat}{L:List (List Value)}{rest:List Res}(ht:lookA e q=some (.ox v))(tk:Take o (arrX v T sz L m) rest)(hl:L.length=m)(h:CA Γ k y ((q, .ow v) :: e) (arrR v T sz L valR :: rest)) : CA Γ k y e o:=by
 refine⟨fun env hh G Os cn=>?_⟩
 obtain⟨O,Os',cn2⟩:=cn.take tk
 obtain⟨⟨ho,hv,hLM,junk,hw⟩,hrest⟩:=cn2.hp.own
 subst hl
 have hlen:=hw.len_vs
 have hfl:=hv.flen
 have hj:junk= []:=zQ (by rw [zP] at hlen;omega)
 subst hj
 rw [List.append_nil] at hw
 have c3:Con Γ ⟨e,arrR v T sz L valR :: rest⟩ env hh G (O :: Os'):=⟨cn2.hp.perm ⟨⟨ho,L,hw,hv.rows hh G⟩,hrest⟩ (List.Perm.refl _),cn2.env,cn2.nf⟩
 exact h.h env hh G (O :: Os') (con_re (σ:=⟨e,arrR v T sz L valR :: rest⟩) c3 q (fun w hw'=>by
  obtain⟨w',g1,g2⟩:=cn.env q _ ht
  rw [hw'] at g1;cases g1;exact g2) ht)
/-! ### append of zeros, where a new row is needed -/
theorem run_append_grow_zeros{P:Program}{w:World}(t tn ty e:TypeId)(i:TypeInfo)(z:Value)(k kn:IntKind)(ht:P.underlying t=some (.slice e))(htn:P.underlying tn=some (.int kn))(hi:P.info? e=some i)(hz:i.zero=some z)
  (b:Addr) (sLen sCap:Nat) (olds:List Value) (hlo:olds.length=sLen * i.size) (holds:∀j v,olds[j]?=some v→w.cell? (b.add j)=some v) (n:Nat) (h0:0 < n) (hs:0 < i.size)
  (hg:sCap < sLen+n) (h63:((sLen+n:Nat):Int)≤9223372036854775807) (h48:n * i.bytes≤281474976710656) (hfit:Builtin.nextslicecap (sLen+n) sCap * i.bytes≤281474976710656) :
  (Builtin.append_ #[t,tn] ty #[.slice (some b) sLen sCap, .int k n]).run P w =
   .ok (.slice (some ⟨w.heap.size,0,none⟩) (sLen+n) (grownCap w (sLen+n) sCap e))
    (w.drew.alloc (.cells (olds.toArray ++ Builtin.zeroCells z.cells n ++ Builtin.zeroCells z.cells (grownCap w (sLen+n) sCap e - (sLen+n))) e)):=by
 have hn:¬(sLen+n≤sCap):=by omega
 have hw:IntKind.i64.wrap (n:Int)=n:=by rw [IntKind.wrap_i64];omega
 have h63':¬(9223372036854775807 < ((sLen:Int)+(n:Int))):=by omega
 have h48':¬(281474976710656 < Builtin.nextslicecap (sLen+n) sCap * i.bytes):=by omega
 have h48i:¬(281474976710656 < (n:Int) * (i.bytes:Int)):=by
  rw [←Int.natCast_mul];omega
 have hneg:¬((n:Int) < 0):=by omega
 have hns:¬(n * i.size=0):=Nat.mul_ne_zero (by omega) (by omega)
 have hfo:=run_firstCells_some (P:=P) w.drew i.size sLen b sLen sCap olds hlo (by simpa using holds)
 simp [Builtin.append_,run_underlying ht,run_underlying htn,sizeOf,typeInfo,zeroValue,hi,hz,asInt,asIntOf,hw,hn,hneg,hns,h63',h48',h48i,Question.forced,hfo,newRow,grownCap]
end
section
variable {Γ:Cx} {k:List KI} {e:EA} {o:List Res} {N:NA} {c:Cls} {d:Tmp} {ty:TypeId} {x y z:Operand} {t u:TypeId} {kk:IntKind} {i:Int}
structure Apz (Γ:Cx) (c:Cls) (d:Tmp) (t u:TypeId) (x y:Operand) (ty:TypeId) (e:EA) (o:List Res) (N:NA) (a b:AV):Prop where
 h:evA e x=some a→evA e y=some b→isLoud c=true→SA Γ c (some d) (.call { callee:= .builtin .append,args:=#[x,y],argTypes:=#[t,u] }) ty e o N
instance (priority:=900):Sp (SA Γ c (some d) (.call { callee:= .builtin .append,args:=#[x,y],argTypes:=#[t,u] }) ty e o N) (Rf (isLoud c=true) (Lk (evA e x) fun a=>Lk (evA e y) fun b=>Apz Γ c d t u x y ty e o N a b)):=⟨fun⟨hc,_,ha,_,hb,h⟩=>h.h ha hb hc⟩
instance {v:Value} {s m:Nat} : Sp (Apz Γ c d t u x y ty e o N (.os v s 0 m) (.val (.int .i64 i))) (Lk (slE Γ.tt t) fun p=>Lk (Γ.tt u) fun ui=>Rf (ui.kind= .int .i64) (Rf ((Nat.blt 0 p.2.size && Nat.ble p.2.bytes 1000)=true∧p.2.zero.cells.size=p.2.size) (TkA o v fun T sz l f _=>Rf (T=p.1∧sz=p.2.size∧s=sz) (Mp l f valR fun L =>
  Jx i 100000000000 fun n=>Om (0 < n∧capV v < m+n∧m≤l.length∧0 < l.length∧m+n≤100000000000) (All fun w:Value=>N ((d, .ox w) :: e) (arrX w p.1 p.2.size (L.take m) (m+n) :: o)))))):=⟨fun⟨p,hp,ui,hui,huk,⟨hs1,hs2⟩,α,T,sz,l,f,rest,tk,⟨hT,hz,hs⟩,L,hL,n,hi,_,⟨hn0,hcap,hml,hl0,hmn⟩,hn⟩=>⟨fun ha hb hc=>⟨fun env hh G Os cn=>by
 subst hs;subst hT;subst hz;subst hi
 obtain⟨w,g1,p0,len,cap,rfl,hjm,rfl⟩:=cn.get ha
 obtain⟨w2,g2,rfl⟩:=cn.get hb
 obtain⟨ti,t1,t2,t3⟩:=slE_spec hp
 obtain⟨O,Os',cn2⟩:=cn.take tk
 obtain⟨⟨ho,rows,hw,hr⟩,hrest⟩:=cn2.hp.own
 have hr2:Rows hh G p.2.size rows L valR:=hr.map hL
 have hv:=RowsV.of hr2
 have e9:=rows_val hr2
 subst e9
 have hLl:rows.length=l.length:=hr.len
 simp only [Bool.and_eq_true,Nat.blt_eq] at hs1
 have hb1000:=zB hs1.2
 have hlen:=hw.len_vs
 have hfl:=hv.flen
 rcases hw.ok with⟨e1,e2⟩|⟨b,of,cap',l',e1,hbk,h1,h2,h3⟩
 ·omega
 ·cases e1
  have hsub:subA (some ⟨b,of,none⟩) p.2.size 0 cap=some ⟨b,of,none⟩:=subA_zero (fun a h=>by cases h;rfl)
  rw [hsub] at g1
  have hcap:cap < m+n:=hcap
  refine .ofLd hc fun a w oo next Q ha' hw' hop hty hnn=>?_
  obtain⟨ie,dd,hie,hd,hi1,hi2,hi3,_⟩:=(Γ.ok.ok _ _ t3).ok
  have hu:=(Γ.ok.ok _ _ t1).slice t2
  have hun:=(Γ.ok.ok _ _ hui).int huk
  have hms:m * p.2.size≤l.length * p.2.size:=zU _ hml
  have hlc:l.length * p.2.size≤cap * p.2.size:=zU _ h2
  have holds:∀j v,(rows.take m).flatten[j]?=some v→w.cell? ((⟨b,of,none⟩:Addr).add j)=some v:=fun j v hv'=>by
   rw [flat_take rows m hv.sz,←h3,List.take_take,Nat.min_eq_left hms] at hv'
   exact((hbk.cels of (m * p.2.size)).get j v hv').get w hw'
  have hof:(rows.take m).flatten.length=m * ie.size:=by rw [flat_take rows m hv.sz,zN,hfl,hi1,hLl];omega
  have hbytes:n * ie.bytes≤281474976710656:=by
   rw [hi2]
   have:n * p.2.bytes≤100000000000 * 1000:=Nat.mul_le_mul (by omega) hb1000
   omega
  have hfit:Builtin.nextslicecap (m+n) cap * ie.bytes≤281474976710656:=growslice_fits (by omega) (by
   rw [hi2]
   have:(m+n) * p.2.bytes≤100000000000 * 1000:=Nat.mul_le_mul (by omega) hb1000
   omega)
  have hrz:=run_append_grow_zeros (P:=Γ.P) (w:=w) t u ty p.1 ie p.2.zero .i64 .i64 hu hun hie hi3 ⟨b,of,none⟩ m cap (rows.take m).flatten hof holds n hn0 (by rw [hi1];exact hs1.1) hcap (by omega) hbytes hfit
  have hge:=grownCap_ge w (m+n) cap p.1
  generalize grownCap w (m+n) cap p.1=cap2 at hrz hge
  have hrun:(execOp a.eval (mkOp (.call { callee:= .builtin .append,args:=#[x,y],argTypes:=#[t,u] }) ty)).run Γ.P w= .ok (.value (.slice (some ⟨w.heap.size,0,none⟩) (m+n) cap2)) (w.drew.alloc (.cells ((rows.take m).flatten.toArray ++ Builtin.zeroCells p.2.zero.cells n ++ Builtin.zeroCells p.2.zero.cells (cap2 - (m+n))) p.1)):=by
   simp [mkOp,execOp,resolve,invoke,builtin,ha'.ev g1,ha'.ev g2,hrz]
  unfold Oper.wp
  rw [exec_mk,hop,hty,hrun]
  have hheap:(w.drew.alloc (.cells ((rows.take m).flatten.toArray ++ Builtin.zeroCells p.2.zero.cells n ++ Builtin.zeroCells p.2.zero.cells (cap2 - (m+n))) p.1)).heap=hh.push (.cells ((rows.take m).flatten ++ (Builtin.zeroCells p.2.zero.cells n).toList ++ (Builtin.zeroCells p.2.zero.cells (cap2 - (m+n))).toList).toArray p.1 (0,0)):=by
   simp only [World.alloc,World.drew,hw']
   congr 2
   apply Array.ext'
   simp
  have hnew:New hh hh.size p.1 ((rows.take m).flatten ++ (Builtin.zeroCells p.2.zero.cells n).toList ++ (Builtin.zeroCells p.2.zero.cells (cap2 - (m+n))).toList) (w.drew.alloc (.cells ((rows.take m).flatten.toArray ++ Builtin.zeroCells p.2.zero.cells n ++ Builtin.zeroCells p.2.zero.cells (cap2 - (m+n))) p.1)).heap:=⟨rfl,hheap⟩
  have hvt:RowsV p.2.size (rows.take m):=⟨fun r hr=>hv.sz r (zW hr),fun r hr=>hv.one r (zW hr)⟩
  refine hnn _ _ (Same.of_push rfl) ?_
  have hzl:(Builtin.zeroCells p.2.zero.cells n).toList.length=n * p.2.size:=by simp [size_zeroCells,hs2]
  have hzl2:(Builtin.zeroCells p.2.zero.cells (cap2 - (m+n))).toList.length=(cap2 - (m+n)) * p.2.size:=by simp [size_zeroCells,hs2]
  rw [hi1] at hof
  have hcs:(m+n) * p.2.size+(cap2 - (m+n)) * p.2.size=cap2 * p.2.size:=by rw [←Nat.add_mul];congr 1;omega
  have hmns:(m+n) * p.2.size=m * p.2.size+n * p.2.size:=Nat.add_mul _ _ _
  have c3:=cn.new (R:=arrX (.slice (some ⟨hh.size,0,none⟩) (m+n) cap2) p.1 p.2.size (rows.take m) (m+n)) (O:=fun y=>y=hh.size) hnew (fun y h=>h)
   ⟨fun y=>by simp [blkOf],hvt,by rw [zN];omega,(Builtin.zeroCells p.2.zero.cells n).toList,by rw [zP,hof,hzl,hmns], .inr ⟨hh.size,0,cap2,_,rfl,hnew.blk,by simp only [zP,hof,hzl,hzl2];omega,by omega,by rw [List.drop_zero,List.take_left' (by rw [zP,hof,hzl,hmns])]⟩⟩
  rw [hw']
  exact CN.mk (c3.put d (a:= .ox _) ⟨rfl,_,_,_,rfl⟩) (hn.ok _)⟩⟩⟩
end
theorem run_overlaps_none{P:Program}(w:World)(tS tR e:TypeId)(ht:P.underlying tS=some (.slice e))(size:Nat)(hz:∀w,(Go.sizeOf e).run P w= .ok size w)(p q:Option Addr)(la ca lb cb:Nat)(h:p=none∨q=none∨la=0∨lb=0) :
  (Extern.SlicesOverlaps.overlaps #[tS,tS] #[tR] #[.slice p la ca, .slice q lb cb]).run P w= .ok (.bool false) w:=by
 change Sem.run P (α:=Value) (do
  let some t:=(#[tS,tS]:Array TypeId)[0]?|stuck "slices.overlaps: no parameter types"
  let .slice elem←underlying t|stuck "slices.overlaps: slice type expected"
  let size←sizeOf elem
  match p,q with
  | some a,some b =>
   if la=0∨lb=0∨size=0 then pure (Value.bool false)
   else if a.block !=b.block && (←frozen a) && (←frozen b) then unsupported .addressObserved
   else do
    if a.block !=b.block then do
     noView a;noView b
     if←mayBeOne a b then return Value.bool ((←choose (.extern "sameAddr.stringBytes" 2)) == 1)
    pure (Value.bool (a.block == b.block && a.off < b.off+lb * size && b.off < a.off+la * size))
  | _,_=>pure (Value.bool false)) w=_
 cases p with
 | none=>simp [run_underlying ht,hz]
 | some a =>
  cases q with
  | none=>simp [run_underlying ht,hz]
  | some b =>
   have h0:la=0∨lb=0∨size=0:=by rcases h with h|h|h|h <;> simp_all
   simp [run_underlying ht,hz,h0]
structure OvF (P:Program) (f:FuncId) (tS:TypeId):Prop where
 ok:∃fn tR,P.funcs[f]?=some fn∧(fn.name == "runtime.NumGoroutine")=false∧fn.body.isNone=true∧Extern.findNext fn=none∧Extern.find fn=some (Extern.SlicesOverlaps.overlaps #[tS,tS] #[tR])
section
variable {Γ:Cx} {k:List KI} {e:EA} {o:List Res} {N:NA} {c:Cls} {d:Tmp} {ty:TypeId} {x y z:Operand} {t u:TypeId} {kk:IntKind} {i:Int}
structure Ovl (o:List Res) (a b:AV) (k:Prop):Prop where
 ok:∃(u v:Value) (s j m:Nat) (α:Type) (T sz:Nat) (l:List α) (f:α→List AV) (rest:List Res) (T' sz':Nat) (L:List (List Value)) (m':Nat) (rest':List Res),a= .ow u∧b= .os v s j m∧Take o (arrR u T sz l f) rest∧Take rest (arrX v T' sz' L m') rest'∧0 < sz'∧k
theorem Ovl.mk'{u v:Value}{s j m:Nat}{α:Type}{T sz:Nat}{l:List α}{f:α→List AV}{rest:List Res}{T' sz':Nat}{L:List (List Value)}{m':Nat}{rest':List Res}{k:Prop}(h1:Take o (arrR u T sz l f) rest)(h2:Take rest (arrX v T' sz' L m') rest')(h3:0 < sz')(hk:k) : Ovl o (.ow u) (.os v s j m) k :=
 ⟨u,v,s,j,m,α,T,sz,l,f,rest,T',sz',L,m',rest',rfl,rfl,h1,h2,h3,hk⟩
theorem SA.ovl{f:FuncId}{tS:TypeId}(hf:OvF Γ.P f tS){p:Nat×TI}(hp:slE Γ.tt tS=some p){tys:Array TypeId}(hc:isLoud c=true)(h:Lk (evA e x) fun a=>Lk (evA e y) fun b=>Ovl o a b (N ((d, .val (.bool false)) :: e) o)) :
  SA Γ c (some d) (.call { callee:= .value (.func f),args:=#[x,y],argTypes:=tys }) ty e o N:=by
 obtain⟨a,ha,b,hb,u,v,s,j,m,α,T,sz,l,g,rest,T',sz',L,m',rest',rfl,rfl,tk1,tk2,hsp,hn⟩:=h
 refine⟨fun env hh G Os cn=>?_⟩
 obtain⟨w1,g1,hw1,q1,l1,c1,hq1⟩:=cn.get ha
 obtain⟨w2,g2,q2,l2,c2,rfl,hjm,rfl⟩:=cn.get hb
 subst hw1
 subst hq1
 obtain⟨ti,t1,t2,t3⟩:=slE_spec hp
 obtain⟨O,Os',cn2⟩:=cn.take tk1
 obtain⟨⟨ho,rows,hw,hr⟩,hrest⟩:=cn2.hp.own
 obtain⟨O',Os2,cn3⟩:=(show Con Γ ⟨e,rest⟩ env hh G Os' from⟨cn2.hp.drop,cn2.env,cn2.nf⟩).take tk2
 obtain⟨⟨ho',hv',hL',junk,hw'⟩,_⟩:=cn3.hp.own
 obtain⟨fn,tR,hf1,hf2,hf3,hf4,hf5⟩:=hf.ok
 have hu:=(Γ.ok.ok _ _ t1).slice t2
 have hzz:=(Γ.ok.ok _ _ t3).run_size
 have key:∀w:World,w.heap=hh→(Extern.SlicesOverlaps.overlaps #[tS,tS] #[tR] #[.slice q1 l1 c1, .slice (subA q2 s j c2) m (c2 - j)]).run Γ.P w= .ok (.bool false) w:=by
  intro w hwh
  rcases hw.ok with⟨e1,e2⟩|⟨b1,of1,cap1,L1,e1,hb1,_,_,_⟩
  ·cases e1
   exact run_overlaps_none w tS tR p.1 hu p.2.size hzz _ _ _ _ _ _ (.inl rfl)
  ·cases e1
   rcases hw'.ok with⟨e1,e2⟩|⟨b2,of2,cap2,L2,e1,hb2,k1,k2,_⟩
   ·cases e1
    refine run_overlaps_none w tS tR p.1 hu p.2.size hzz _ _ _ _ _ _ (.inr (.inl ?_))
    unfold subA;split <;> rfl
   ·cases e1
    by_cases h0:l.length=0∨m=0
    ·exact run_overlaps_none w tS tR p.1 hu p.2.size hzz _ _ _ _ _ _ (.inr (.inr h0))
    ·have hjc:j < m':=by omega
     have hsub:∃a,subA (some ⟨b2,of2,none⟩) s j c2=some a∧a.block=b2:=by
      unfold subA
      split
      ·exact⟨_,rfl,rfl⟩
      ·exact⟨_,rfl,by simp [addr_add]⟩
     obtain⟨a2,ha2,hab⟩:=hsub
     rw [ha2]
     have hB1:w.heap[b1]?=some (.cells L1.toArray T (0,0)):=hb1.heap hwh
     have hB2:w.heap[b2]?=some (.cells L2.toArray T' (0,0)):=hb2.heap hwh
     have hne:b1≠b2:=fun h=>by
      have h1:O b1:=(ho b1).2 (by simp [blkOf])
      have h2:O' b2:=(ho' b2).2 (by simp [blkOf])
      have hd:=List.pairwise_cons.1 cn2.hp.d
      obtain⟨O2,os2,r1,r2,r3⟩:=tk2.own cn2.hp.drop.own
      have h3:O2 b2:=(r1.1 b2).2 (by simp [blkOf])
      exact hd.1 O2 (r3.mem_iff.2 (by simp)) b1 h1 (h▸h3)
     by_cases hk0:L2.length=0
     ·have h5:=zU sz' k2
      have h6:0 < m' * sz':=Nat.mul_pos (by omega) hsp
      omega
     ·exact Go.Lib.run_overlaps_apart w tS tR p.1 hu p.2.size hzz ⟨b1,of1,none⟩ a2 l.length c1 m (c2 - j) (by rw [hab];exact hne) T T' L1.length L2.length (by simp [World.shape?,hB1]) (by rw [hab];simp [World.shape?,hB2]) hk0 (by simp [World.frozen?,hB1]) (by simp [World.frozen?,hB1])
 refine St.ofLd hc fun a w oo next Q ha' hwh hop hty hnn=>?_
 have hrun:(execOp a.eval (mkOp (.call { callee:= .value (.func f),args:=#[x,y],argTypes:=tys }) ty)).run Γ.P w= .ok (.value (.bool false)) w:=by
  have h1:=run_callFunc_extern hf1 hf2 hf3 hf4 hf5 #[.slice q1 l1 c1, .slice (subA q2 s j c2) m (c2 - j)] w
  rw [key w hwh] at h1
  simp [mkOp,execOp,resolve,invoke,Deferred.ofValue,ha'.ev g1,ha'.ev g2,ha'.ev (x:= .func f) (v:= .func (.func f) #[] #[]) rfl,h1]
 unfold Oper.wp
 rw [exec_mk,hop,hty,hrun]
 exact hnn _ w (Same.refl w) (hwh▸CN.mk (cn.put d (a:= .val _) rfl) hn)
structure Cvk (q:TK) (i:Int) (M:IntKind→Int→Prop):Prop where
 ok:∃k' r,q= .int k'∧k'.wrap i=r∧M k' r
theorem Cvk.i64{q:TK}{i:Int}{M:IntKind→Int→Prop}(hq:q= .int .i64)(h: -9223372036854775808≤i∧i≤9223372036854775807)(hm:M .i64 i) : Cvk q i M:=⟨.i64,i,hq,wrap_i64 h,hm⟩
theorem Cvk.u8{q:TK}{i:Int}{M:IntKind→Int→Prop}(hq:q= .int .u8)(h:0≤i∧i≤255)(hm:M .u8 i) : Cvk q i M:=⟨.u8,i,hq,wrap_u8 h,hm⟩
theorem Cvk.u64{q:TK}{i:Int}{M:IntKind→Int→Prop}(hq:q= .int .u64)(h:0≤i∧i≤18446744073709551615)(hm:M .u64 i) : Cvk q i M:=⟨.u64,i,hq,by
 simp [IntKind.wrap,IntKind.signed,IntKind.bits];omega,hm⟩
instance (priority:=1100) {w:TypeId} : Sp (Ap1 Γ c d (.convert t w x) ty e o N x (.val (.int kk i))) (Lk (Γ.tt t) fun _=>Lk (Γ.tt w) fun ti=>Cvk ti.kind i fun k' r=>N ((d, .val (.int k' r)) :: e) o):=⟨fun⟨_,h1,_,h2,_,_,hq,hr,hn⟩=>puv1 (fun _ _=>rfl) hn fun _ _ _ h k=>St.convert Γ.ok h1 h2 hq h hr k⟩
instance {k2:IntKind} : Sp (Ap2 Γ c d (.binOp .shr t x y u) ty e o N x (.val (.int .u64 i)) y (.val (.int k2 1))) (N ((d, .val (.int .u64 (i / 2))) :: e) o):=⟨fun hn=>puv2 hn fun _ _ _ h h' k=>St.shrN h h' (m:=1) rfl (by decide) (by rw [show(2:Int) ^ 1=2 from rfl];exact k)⟩
end
def bunR(rs:List Res) : Res :=
  ⟨fun h O G=>∃Os,OwnL h G rs Os∧Apart Os∧∀b,O b↔U Os b,
   fun {_ _ _ _} x ⟨Os,h1,h2,h3⟩=>⟨Os,OwnL.stp (fun O' hO'=>x.mono fun b hb=>hb.imp (fun h=>(h3 b).2 ⟨O',hO',h⟩) id) h1,h2,h3⟩,
   fun x ⟨Os,h1,h2,h3⟩=>⟨Os,h1.mono x,h2,h3⟩,
   fun⟨_Os,h1,_,h3⟩ b hb=>let ⟨O,hO,h4⟩:=(h3 b).1 hb;h1.nc O hO b h4⟩
section
variable {h0:Heap} {G0 O0:Nat→Prop} {h:Heap} {G:Nat→Prop} {Os:List (Nat→Prop)} {rs rest:List Res} {O:Nat→Prop}
theorem HpOK.unbun(c:HpOK h0 G0 O0 (bunR rs :: rest) h G (O :: Os)) :∃Os',OwnL h G rs Os'∧HpOK h0 G0 O0 (rs ++ rest) h G (Os' ++ Os):=by
 obtain⟨⟨Os',h1,h2,h3⟩,hrest⟩:=c.own
 have hd:=List.pairwise_cons.1 c.d
 refine⟨Os',h1,h1.app hrest,c.g,c.g0,fun X hX b hb=>?_,List.pairwise_append.2 ⟨h2,hd.2,fun A hA B hB b ha hb=>hd.1 B hB b ((h3 b).2 ⟨A,hA,ha⟩) hb⟩,c.fp⟩
 rcases zV.1 hX with hX|hX
 ·exact c.o O (by simp) b ((h3 b).2 ⟨X,hX,hb⟩)
 ·exact c.o X (by simp [hX]) b hb
theorem HpOK.bun{Os1 Os2:List (Nat→Prop)}(c:HpOK h0 G0 O0 (rs ++ rest) h G (Os1 ++ Os2))(h1:OwnL h G rs Os1)(h2:OwnL h G rest Os2) : HpOK h0 G0 O0 (bunR rs :: rest) h G (U Os1 :: Os2):=by
 obtain⟨d1,d2,d3⟩:=List.pairwise_append.1 c.d
 refine⟨⟨⟨Os1,h1,d1,fun b=>Iff.rfl⟩,h2⟩,c.g,c.g0,fun X hX b hb=>?_,List.pairwise_cons.2 ⟨fun B hB b ⟨A,hA,ha⟩ hb=>d3 A hA B hB b ha hb,d2⟩,c.fp⟩
 rcases List.mem_cons.1 hX with rfl|hX
 ·obtain⟨A,hA,ha⟩:=hb
  exact c.o A (by simp [hA]) b ha
 ·exact c.o X (by simp [hX]) b hb
end
section
variable {Γ:Cx} {k:List KI} {e:EA} {o:List Res} {α:Type} {l:List α} {g:α→Res}
theorem CA.bunTake{y:Code}{i:Nat}{x:α}{rest:List Res}(tk:Take o (bunR (l.map g)) rest)(hx:l[i]?=some x)(h:CA Γ k y e (g x :: bunR ((l.eraseIdx i).map g) :: rest)) : CA Γ k y e o:=by
 refine⟨fun env hh G Os cn=>?_⟩
 obtain⟨O,Os',cn2⟩:=cn.take tk
 obtain⟨Os1,g1,g2⟩:=cn2.hp.unbun
 have hil:=(zS.1 hx).1
 have hsp:l=l.take i ++ x :: l.drop (i+1):=by
  have h9:=List.drop_eq_getElem_cons hil
  rw [(zS.1 hx).2] at h9
  rw [←h9,List.take_append_drop]
 have hrest:=cn2.hp.own.2
 rw [hsp,List.map_append,List.map_cons] at g1
 obtain⟨A,B,rfl,a1,a2⟩:=OwnL.split g1
 match B,a2 with
 | X :: B,⟨b1,b2⟩ =>
  have hp:(A ++ X :: B ++ Os').Perm (X :: ((A ++ B) ++ Os')):=by
   rw [List.append_assoc,List.cons_append]
   exact List.perm_middle.trans (by rw [List.append_assoc])
  have herase:(l.eraseIdx i).map g=(l.take i).map g ++ (l.drop (i+1)).map g:=by rw [List.eraseIdx_eq_take_drop_succ,List.map_append]
  have c3:HpOK Γ.h0 Γ.G0 Γ.O0 (g x :: ((l.eraseIdx i).map g ++ rest)) hh G (X :: ((A ++ B) ++ Os')) :=
   g2.perm ⟨b1,by rw [herase];exact(a1.app b2).app hrest⟩ hp
  have c4:HpOK Γ.h0 Γ.G0 Γ.O0 (((l.eraseIdx i).map g) ++ (g x :: rest)) hh G ((A ++ B) ++ (X :: Os')) :=
   c3.perm (by rw [herase];exact(a1.app b2).app ⟨b1,hrest⟩) List.perm_middle.symm
  have c5:=c4.bun (by rw [herase];exact a1.app b2) ⟨b1,hrest⟩
  have c6:HpOK Γ.h0 Γ.G0 Γ.O0 (g x :: bunR ((l.eraseIdx i).map g) :: rest) hh G (X :: U (A ++ B) :: Os') :=
   c5.perm ⟨b1,c5.own.1,hrest⟩ (List.Perm.swap _ _ _)
  exact h.h env hh G _ ⟨c6,cn.env,cn.nf⟩
theorem CA.bunPush{y:Code}{x:α}{rest1 rest2:List Res}(tk1:Take o (bunR (l.map g)) rest1)(tk2:Take rest1 (g x) rest2)(h:CA Γ k y e (bunR ((l ++ [x]).map g) :: rest2)) : CA Γ k y e o:=by
 refine⟨fun env hh G Os cn=>?_⟩
 obtain⟨O,Os',cn2⟩:=cn.take tk1
 obtain⟨X,Os2,r1,r2,r3⟩:=tk2.own cn2.hp.own.2
 have c2:HpOK Γ.h0 Γ.G0 Γ.O0 (bunR (l.map g) :: g x :: rest2) hh G (O :: X :: Os2):=cn2.hp.perm ⟨cn2.hp.own.1,r1,r2⟩ (List.Perm.cons O r3)
 obtain⟨A,g1,g2⟩:=c2.unbun
 have c3:HpOK Γ.h0 Γ.G0 Γ.O0 ((l.map g ++ [g x]) ++ rest2) hh G ((A ++ [X]) ++ Os2):=by
  rw [List.append_assoc,List.append_assoc];exact g2
 have c4:=c3.bun (g1.app (r1:=l.map g) (r2:= [g x]) ⟨r1,trivial⟩) r2
 rw [show l.map g ++ [g x]=(l ++ [x]).map g by simp] at c4
 exact h.h env hh G _ ⟨c4,cn.env,cn.nf⟩
theorem CA.bunPut{y:Code}{i:Nat}{x:α}{rest1 rest2:List Res}(tk1:Take o (bunR ((l.eraseIdx i).map g)) rest1)(tk2:Take rest1 (g x) rest2)(hi:i < l.length)(h:CA Γ k y e (bunR ((l.set i x).map g) :: rest2)) : CA Γ k y e o:=by
 refine⟨fun env hh G Os cn=>?_⟩
 obtain⟨O,Os',cn2⟩:=cn.take tk1
 obtain⟨X,Os2,r1,r2,r3⟩:=tk2.own cn2.hp.own.2
 have c2:HpOK Γ.h0 Γ.G0 Γ.O0 (bunR ((l.eraseIdx i).map g) :: g x :: rest2) hh G (O :: X :: Os2):=cn2.hp.perm ⟨cn2.hp.own.1,r1,r2⟩ (List.Perm.cons O r3)
 obtain⟨A,g1,g2⟩:=c2.unbun
 have herase:(l.eraseIdx i).map g=(l.take i).map g ++ (l.drop (i+1)).map g:=by rw [List.eraseIdx_eq_take_drop_succ,List.map_append]
 have hset:(l.set i x).map g=(l.take i).map g ++ g x :: (l.drop (i+1)).map g:=by
  rw [List.set_eq_take_append_cons_drop,if_pos hi,List.map_append,List.map_cons]
 rw [herase] at g1 g2
 obtain⟨B,C,rfl,b1,b2⟩:=OwnL.split g1
 have hp:(B ++ C ++ X :: Os2).Perm ((B ++ X :: C) ++ Os2):=by
  rw [List.append_assoc,List.append_assoc,List.cons_append]
  exact List.Perm.append_left B List.perm_middle
 have c3:HpOK Γ.h0 Γ.G0 Γ.O0 ((l.set i x).map g ++ rest2) hh G ((B ++ X :: C) ++ Os2):=g2.perm (by rw [hset];exact OwnL.app (OwnL.app b1 (show OwnL hh G (g x :: (l.drop (i+1)).map g) (X :: C) from⟨r1,b2⟩)) r2) hp
 have c4:=c3.bun (by rw [hset];exact OwnL.app b1 (show OwnL hh G (g x :: (l.drop (i+1)).map g) (X :: C) from⟨r1,b2⟩)) r2
 exact h.h env hh G _ ⟨c4,cn.env,cn.nf⟩
theorem CA.bunNil{y:Code}(g:α→Res)(h:CA Γ k y e (bunR (([]:List α).map g) :: o)) : CA Γ k y e o:=by
 refine⟨fun env hh G Os cn=>?_⟩
 have c4:HpOK Γ.h0 Γ.G0 Γ.O0 (bunR (([]:List α).map g) :: o) hh G (U [] :: Os):=HpOK.bun (rs:= []) (Os1:= []) cn.hp trivial cn.hp.own
 exact h.h env hh G _ ⟨c4,cn.env,cn.nf⟩
end
theorem ON.refl :∀a:Ord,ON a a
 | .done=> .done
 | .none=> .none
 | .one _ r=> .one (ON.refl r)
 | .alt _ r m=> .alt (ON.refl r) (ON.refl m)
def altsT(f:Nat→Ord) : List Nat→Ord
 | []=> .none
 | i :: l=> .alt i (f i) (altsT f l)
def fillT(rest:Ord) : Nat→List Nat→Ord
 | 0,_=>rest
 | 1,[i]=> .one i rest
 | n+1,ps=>altsT (fun i=>fillT rest n (ps.erase i)) ps
section
variable {ops:Array Oper} {cl:Nat→Cls}
def arrL(l0:Array Bool)(ps0 ps:List Nat) : Array Bool:=((List.range l0.size).map fun j=>l0.getD j false || (ps0.contains j && !ps.contains j)).toArray
def subsL : List Nat→List (List Nat)
 | []=> [[]]
 | a :: l=>(subsL l).map (a :: ·) ++ subsL l
theorem subsL_mem{ps ps0:List Nat}(h:List.Sublist ps ps0) : ps∈subsL ps0:=by
 induction h with
 | slnil=>simp [subsL]
 | cons a _ ih=>simp [subsL,ih]
 | cons_cons a _ ih=>simp [subsL,ih]
def chkM(ops:Array Oper)(cl:Nat→Cls)(rest:Ord)(fuel:Nat)(l0:Array Bool)(ps0:List Nat) : Bool :=
 ((subsL ps0).all fun ps=>ps.isEmpty || Region.ready .any ops (arrL l0 ps0 ps) == ps) && ps0.all (fun i=>acts (cl i) && !l0.getD i true) && chkG ops cl rest fuel true (arrL l0 ps0 [])
theorem arrL_all{l0:Array Bool}{ps0:List Nat} : arrL l0 ps0 ps0=l0:=by
 apply Array.ext_getElem?
 intro j
 simp only [arrL,List.getElem?_toArray,zG,Bool.and_not_self,Bool.or_false]
 by_cases hj:j < l0.size
 ·simp [Array.getD,hj]
 ·simp [hj]
theorem arrL_set{l0:Array Bool}{ps0 ps:List Nat}{i:Nat}(hn:ps.Nodup)(h0:i∈ps0)(_hi:i∈ps) : (arrL l0 ps0 ps).setIfInBounds i true=arrL l0 ps0 (ps.erase i):=by
 apply Array.ext_getElem?
 intro j
 rw [Array.getElem?_setIfInBounds]
 simp only [arrL,List.getElem?_toArray,zG,List.size_toArray,List.length_map,List.length_range]
 by_cases hij:i=j
 ·subst hij
  by_cases hj:i < l0.size
  ·have:(ps.erase i).contains i=false:=by simpa using hn.not_mem_erase
   simp [hj,h0,hn.not_mem_erase]
  ·simp [hj]
 ·rw [if_neg hij]
  have hc:(ps.erase i).contains j=ps.contains j:=by
   simp only [List.contains_eq_mem,List.mem_erase_of_ne (Ne.symm hij)]
  by_cases hj:j < l0.size
  ·simp only [List.getElem?_range hj,Option.map_some,hc]
  ·simp [hj]
def oneOK(ops:Array Oper)(cl:Nat→Cls)(i:Nat)(listed:Array Bool) : Bool:=match cl i with
 | .pure=>(Region.ready .any ops listed).contains i && Region.free .any ops listed i
 | .read=>(Region.ready .any ops listed).contains i && Region.free .any ops listed i && (List.range ops.size).all fun j=>listed.getD j true || !isLoud (cl j) || waitsB ops i ops.size j
 | _=>Region.ready .any ops listed == [i]
theorem chk_one_eq{i:Nat}{r:Ord}{fuel:Nat}{listed:Array Bool} : chkG ops cl (.one i r) (fuel+1) true listed=(oneOK ops cl i listed && chkG ops cl r fuel true (listed.setIfInBounds i true)):=by
 simp only [chkG,oneOK]
 cases cl i <;> simp
theorem altsT_heads{f:Nat→Ord} :∀l,(altsT f l).heads=l
 | []=>rfl
 | i :: l=>by simp [altsT,Ord.heads,altsT_heads l]
theorem chk_alts{f:Nat→Ord}{fuel:Nat}{listed:Array Bool} :∀{l:List Nat},(∀i∈l,acts (cl i)=true∧chkG ops cl (f i) fuel true (listed.setIfInBounds i true)=true)→chkG ops cl (altsT f l) (fuel+1) false listed=true
 | [],_=>by simp [altsT,chkG]
 | i :: l,h=>by
  simp only [altsT,chkG,Bool.not_false,Bool.true_or,Bool.true_and,Bool.and_eq_true]
  exact⟨h i (by simp),chk_alts fun j hj=>h j (by simp [hj])⟩
theorem chk_fill{rest:Ord}{fuel:Nat}{l0:Array Bool}{ps0:List Nat}(hn:ps0.Nodup)(h:chkM ops cl rest fuel l0 ps0=true) : chkG ops cl (fillT rest ps0.length ps0) (fuel+ps0.length) true l0=true:=by
 simp only [chkM,Bool.and_eq_true,List.all_eq_true,Bool.or_eq_true] at h
 obtain⟨⟨h1,h2⟩,h3⟩:=h
 have key:∀(n:Nat) (ps:List Nat),ps.length=n→List.Sublist ps ps0→chkG ops cl (fillT rest n ps) (fuel+n) true (arrL l0 ps0 ps)=true:=by
  intro n
  induction n with
  | zero =>
   intro ps hl _
   have:ps= []:=List.length_eq_zero_iff.1 hl
   subst this
   exact h3
  | succ n ih =>
   intro ps hl hs
   have hnp:ps.Nodup:=List.Sublist.nodup hs hn
   have hready:Region.ready .any ops (arrL l0 ps0 ps)=ps:=by
    rcases h1 ps (subsL_mem hs) with h9|h9
    ·rw [List.isEmpty_iff] at h9;subst h9;simp at hl
    ·exact eq_of_beq h9
   have sub:∀i∈ps,acts (cl i)=true∧chkG ops cl (fillT rest n (ps.erase i)) (fuel+n) true ((arrL l0 ps0 ps).setIfInBounds i true)=true:=by
    intro i hi
    refine⟨(h2 i (hs.mem hi)).1, ?_⟩
    rw [arrL_set hnp (hs.mem hi) hi]
    exact ih _ (by rw [List.length_erase_of_mem hi];omega) ((List.erase_sublist).trans hs)
   have gen:2≤ps.length→chkG ops cl (altsT (fun i=>fillT rest n (ps.erase i)) ps) (fuel+n+1) true (arrL l0 ps0 ps)=true:=by
    intro h2l
    match ps,hready,sub with
    | i :: l,hready,sub =>
     simp only [altsT,chkG,altsT_heads,hready,beq_self_eq_true,Bool.or_true,Bool.true_and,Bool.and_eq_true]
     exact⟨sub i (by simp),chk_alts fun j hj=>sub j (by simp [hj])⟩
   match n,ps,hl,gen,sub,hready with
   | 0,[i],_,_,sub,hready =>
    obtain⟨g1,g2⟩:=sub i (by simp)
    have g3:oneOK ops cl i (arrL l0 ps0 [i])=true:=by
     revert g1
     unfold oneOK
     cases cl i <;> simp [acts,hready]
    show chkG ops cl (.one i rest) (fuel+1) true (arrL l0 ps0 [i])=true
    rw [chk_one_eq,g3]
    simpa [fillT] using g2
   | n+1,ps,hl,gen,_,_=>exact gen (by omega)
 have:=key _ ps0 rfl (List.Sublist.refl _)
 rwa [arrL_all] at this
theorem chk_one{i:Nat}{r:Ord}{fuel:Nat}{listed:Array Bool}(h1:oneOK ops cl i listed=true)(h2:chkG ops cl r fuel true (listed.setIfInBounds i true)=true) : chkG ops cl (.one i r) (fuel+1) true listed=true:=by
 rw [chk_one_eq,h1,h2];rfl
end
section
variable {Γ:Cx} {k:List KI} {e:EA} {o:List Res} {ops:Array Oper} {cl:Nat→Cls}
theorem RA'.alts{f:Nat→Ord} :∀{ps:List Nat},(∀i∈ps,RA' Γ k ops cl (.one i (f i)) e o)→RA' Γ k ops cl (altsT f ps) e o
 | [],_=>show RA' Γ k ops cl .none e o from Sp.h (s:=True) trivial
 | i :: l,h=>show RA' Γ k ops cl (.alt i (f i) (altsT f l)) e o from Sp.h (s:=RA' Γ k ops cl (.one i (f i)) e o∧RA' Γ k ops cl (altsT f l) e o) ⟨h i (by simp),RA'.alts fun j hj=>h j (by simp [hj])⟩
theorem lookL_mem{β:Type}{kvs:List (List Int×β)}(hn:kvs.Pairwise fun a b=>a.1≠b.1){key:List Int}{v:β}(h:(key,v)∈kvs) : lookL kvs key=some v:=by
 induction kvs with
 | nil=>cases h
 | cons a l ih =>
  obtain⟨h1,h2⟩:=List.pairwise_cons.1 hn
  simp only [lookL,List.find?_cons] at ih ⊢
  rcases List.mem_cons.1 h with rfl|h
  ·simp
  ·have h3:=h1 _ h
   have h4:decide (a.1=key)=false:=by simpa using h3
   rw [h4]
   exact ih h2 h
theorem lookL_nil{β:Type}{kvs:List (List Int×β)}{key:List Int}(h:∀p∈kvs,p.1≠key) : lookL kvs key=none:=by
 unfold lookL
 rw [List.find?_eq_none.2 fun p hp=>by simpa using h p hp]
 rfl
theorem lookL_perm{β:Type}{a b:List (List Int×β)}(hp:a.Perm b)(hn:b.Pairwise fun x y=>x.1≠y.1)(key:List Int) : lookL a key=lookL b key:=by
 have hna:a.Pairwise fun x y=>x.1≠y.1:=hp.symm.pairwise hn fun h=>fun h'=>h h'.symm
 by_cases h:∃v,(key,v)∈b
 ·obtain⟨v,hv⟩:=h
  rw [lookL_mem hn hv,lookL_mem hna (hp.mem_iff.2 hv)]
 ·rw [lookL_nil (kvs:=b) (key:=key) fun p hp' hk=>h ⟨p.2,by subst hk;exact hp'⟩,lookL_nil (kvs:=a) (key:=key) fun p hp' hk=>h ⟨p.2,by subst hk;exact hp.mem_iff.1 hp'⟩]
theorem RA'.fill{β:Type}{b:Nat}{kt:TypeId}{f:β→AV}{rest:Ord}(items:Nat→List Int×β)(ps0:List Nat)(hnd:(ps0.map items).Pairwise fun x y=>x.1≠y.1)
  (hs:∀i∈ps0,∀kvs r,RA' Γ k ops cl r e (mapR Γ.P b kt (updL kvs (items i).1 (items i).2) f :: o)→RA' Γ k ops cl (.one i r) e (mapR Γ.P b kt kvs f :: o))
  (h:∀kvs,kvs.Perm (ps0.map items)→RA' Γ k ops cl rest e (mapR Γ.P b kt kvs f :: o)) :
  RA' Γ k ops cl (fillT rest ps0.length ps0) e (mapR Γ.P b kt [] f :: o):=by
 have key:∀(n:Nat) (ps:List Nat) (kvs:List (List Int×β)),ps.length=n→(kvs ++ ps.map items).Perm (ps0.map items)→(∀i∈ps,i∈ps0)→RA' Γ k ops cl (fillT rest n ps) e (mapR Γ.P b kt kvs f :: o):=by
  intro n
  induction n with
  | zero =>
   intro ps kvs hl hp _
   have:ps= []:=List.length_eq_zero_iff.1 hl
   subst this
   exact h kvs (by simpa using hp)
  | succ n ih =>
   intro ps kvs hl hp hm
   have step:∀i∈ps,∀r,RA' Γ k ops cl r e (mapR Γ.P b kt (kvs ++ [items i]) f :: o)→RA' Γ k ops cl (.one i r) e (mapR Γ.P b kt kvs f :: o):=by
    intro i hi r hr
    refine hs i (hm i hi) kvs r ?_
    have hnk:lookL kvs (items i).1=none:=by
     refine lookL_nil fun p hpm hk=>?_
     have hna:(kvs ++ ps.map items).Pairwise fun x y=>x.1≠y.1:=hp.symm.pairwise hnd fun h=>fun h'=>h h'.symm
     exact(List.pairwise_append.1 hna).2.2 p hpm (items i) (List.mem_map_of_mem hi) hk
    rw [updL_none _ _ _ hnk]
    exact hr
   have sub:∀i∈ps,RA' Γ k ops cl (fillT rest n (ps.erase i)) e (mapR Γ.P b kt (kvs ++ [items i]) f :: o):=by
    intro i hi
    refine ih _ _ (by rw [List.length_erase_of_mem hi];omega) ?_ fun j hj=>hm j (List.mem_of_mem_erase hj)
    refine List.Perm.trans ?_ hp
    rw [List.append_assoc]
    refine List.Perm.append_left kvs ?_
    have:=(List.perm_cons_erase hi).map items
    exact this.symm
   have gen:RA' Γ k ops cl (altsT (fun i=>fillT rest n (ps.erase i)) ps) e (mapR Γ.P b kt kvs f :: o):=RA'.alts fun i hi=>step i hi _ (sub i hi)
   match n,ps,hl,gen,sub,step with
   | 0,[i],_,_,sub,step=>exact step i (by simp) _ (sub i (by simp))
   | n+1,ps,_,gen,_,_=>exact gen
 exact key _ ps0 [] rfl (by simp) fun _ h=>h
end
structure ALe (a b:AV):Prop where
 le:∀{h:Heap} {G:Nat→Prop} {v:Value},a.R h G v→b.R h G v
theorem ALe.refl(a:AV) : ALe a a:=⟨fun h=>h⟩
theorem ALe.nil{α:Type}{sz:Nat}{f:α→List AV} : ALe (.val (.slice none 0 0)) (.sl sz [] f):=⟨fun h=>by
 have h:_=_:=h
 subst h
 exact⟨by simp, .inl ⟨rfl,none,0,rfl⟩⟩⟩
inductive RLe:List AV→List AV→Prop where
 | nil:RLe [] []
 | cons {a b:AV} {l m:List AV} : ALe a b→RLe l m→RLe (a :: l) (b :: m)
theorem RLe.rep{h:Heap}{G:Nat→Prop}{l m:List AV}(x:RLe l m) :∀{vs:List Value},RepT h G vs l→RepT h G vs m:=by
 induction x with
 | nil=>exact fun hr=>hr
 | cons ha _ ih =>
  intro vs hr
  match vs,hr with
  | v :: vs,⟨h1,h2⟩=>exact⟨ha.le h1,ih h2⟩
theorem ALe.sl{α β:Type}{sz:Nat}{l:List α}{f:α→List AV}{ys:List β}{g:β→List AV}(hl:l.length=ys.length)(hr:∀(i:Nat) x y,l[i]?=some x→ys[i]?=some y→RLe (f x) (g y)) : ALe (.sl sz l f) (.sl sz ys g):=⟨fun {h G v} hv=>by
 obtain⟨h1,⟨h2,p,cap,h3⟩|⟨b,o,cap,rows,h2,h3,h4,h5,h6,h7,h8⟩⟩:=hv
 ·subst h2
  exact⟨by rw [←hl];exact h1, .inl ⟨zQ (by rw [←hl];rfl),p,cap,h3⟩⟩
 ·refine⟨by rw [←hl];exact h1, .inr ⟨b,o,cap,rows,by rw [←hl];exact h2,by rw [←hl];exact h3,by rw [←hl];exact h4,h5,h6,h7,⟨by rw [h8.len,hl],fun i r y g1 g2=>?_,h8.sz⟩⟩⟩
  have hi:=(zS.1 g2).1
  have hx:l[i]?=some (l[i]'(by omega)):=zE _
  have g3:=h8.row i r _ g1 hx
  exact⟨(hr i _ y hx g2).rep g3.t,g3.one⟩⟩
theorem CallA.conv{P:Program}{f:FuncId}{asx:List AV}{own:List Res}{a b:AV}(hab:ALe a b)(h:CallA P f asx own fun q o=>q=a∧o= []) : CallA P f asx own fun q o=>q=b∧o= [] :=
 ⟨fun hh G Os vs h1 h2=>(h.run hh G Os vs h1 h2).mono fun v' h' ⟨r,o,G',Os',⟨e1,e2⟩,g1,g2⟩=>by
  subst e1;subst e2
  exact⟨_,_,_,_,⟨rfl,rfl⟩,hab.le g1,g2⟩⟩
section
variable {k:List KI} {e:EA} {o:List Res}
end
inductive FX:List Res→List AV→List AV→List Res→Prop where
 | nil {o:List Res} : FX o [] [] o
 | le {o own:List Res} {a b:AV} {l l':List AV} : ALe a b→FX o l l' own→FX o (a :: l) (b :: l') own
 | agg {o o1 own:List Res} {cs cs' l l':List AV} : FX o cs cs' o1→FX o1 l l' own→FX o (.agg cs :: l) (.agg cs' :: l') own
 | tup {o o1 own:List Res} {cs cs' l l':List AV} : FX o cs cs' o1→FX o1 l l' own→FX o (.tup cs :: l) (.tup cs' :: l') own
 | unb {o rest own rs:List Res} {l l':List AV} : Take o (bunR rs) rest→FX (rs ++ rest) l l' own→FX o l l' own
 | sl {o rest o1 own:List Res} {l l':List AV} {α β:Type} {v:Value} {T sz:Nat} {xs:List α} {f:α→List AV} {ys:List β} {g:β→List AV} :
   Take o (arrR v T sz xs f) rest→xs.length≤9223372036854775807→FX rest (xs.map fun x=> .agg (f x)) (ys.map fun y=> .agg (g y)) o1→FX o1 l l' own→FX o (.ow v :: l) (.sl sz ys g :: l') own
theorem FX.len{o own:List Res}{l l':List AV}(x:FX o l l' own) : l.length=l'.length:=by
 induction x with
 | nil=>rfl
 | le _ _ ih=>simp [ih]
 | agg _ _ _ ih=>simp [ih]
 | tup _ _ _ ih=>simp [ih]
 | unb _ _ ih=>exact ih
 | sl _ _ _ _ _ ih=>simp [ih]
theorem RepLL.aggs{h:Heap}{G:Nat→Prop}{α:Type}{f:α→List AV} :∀{rows:List (List Value)} {l:List α},RepLL h G rows (l.map f)→RepT h G (rows.map fun r=> .agg r.toArray) (l.map fun x=> .agg (f x))
 | [],[],_=>trivial
 | _ :: _,_ :: _,⟨h1,h2⟩=>⟨⟨_,rfl,h1⟩,RepLL.aggs h2⟩
 | [],_ :: _,h=>h.elim
 | _ :: _,[],h=>h.elim
theorem RepLL.unaggs{h:Heap}{G:Nat→Prop}{α:Type}{f:α→List AV} :∀{rows:List (List Value)} {l:List α},RepT h G (rows.map fun r=> .agg r.toArray) (l.map fun x=> .agg (f x))→RepLL h G rows (l.map f)
 | [],[],_=>trivial
 | v :: vs,x :: l,⟨⟨ws,e,h1⟩,h2⟩=>by
  have e':v=ws:=by
   have:=congrArg (fun u=>match u with|Value.agg a=>a.toList|_=> []) e
   simpa using this
  subst e'
  exact⟨h1,RepLL.unaggs h2⟩
 | [],_ :: _,h=>h.elim
 | _ :: _,[],h=>h.elim
theorem FX.rep{h0:Heap}{G0 O0:Nat→Prop}{h:Heap}{o own:List Res}{l l':List AV}(x:FX o l l' own) :∀{G:Nat→Prop} {Os:List (Nat→Prop)} {vs:List Value},HpOK h0 G0 O0 o h G Os→RepT h G vs l→∃G' Os',HpOK h0 G0 O0 own h G' Os'∧RepT h G' vs l'∧∀b,G b→G' b:=by
 induction x with
 | nil=>exact fun {G Os vs} c hr=>⟨G,Os,c,hr,fun _ h=>h⟩
 | le ha _ ih =>
  intro G Os vs c hr
  match vs,hr with
  | v :: vs,⟨r1,r2⟩ =>
   obtain⟨G',Os',h1,h2,h3⟩:=ih c r2
   exact⟨G',Os',h1,⟨AV.mono _ h3 (ha.le r1),h2⟩,h3⟩
 | agg _ _ ih1 ih =>
  intro G Os vs c hr
  match vs,hr with
  | v :: vs,⟨⟨ws,r1,r3⟩,r2⟩ =>
   obtain⟨G1,Os1,h1,h2,h3⟩:=ih1 c r3.t
   obtain⟨G2,Os2,h4,h5,h6⟩:=ih h1 (r2.mono h3)
   exact⟨G2,Os2,h4,⟨⟨ws,r1,h2.mono h6,r3.one⟩,h5⟩,fun b hb=>h6 b (h3 b hb)⟩
 | tup _ _ ih1 ih =>
  intro G Os vs c hr
  match vs,hr with
  | v :: vs,⟨⟨ws,r1,r3⟩,r2⟩ =>
   obtain⟨G1,Os1,h1,h2,h3⟩:=ih1 c r3
   obtain⟨G2,Os2,h4,h5,h6⟩:=ih h1 (r2.mono h3)
   exact⟨G2,Os2,h4,⟨⟨ws,r1,h2.mono h6⟩,h5⟩,fun b hb=>h6 b (h3 b hb)⟩
 | unb tk _ ih =>
  intro G Os vs c hr
  obtain⟨O,os',c2⟩:=c.take tk
  obtain⟨A,_,g2⟩:=c2.unbun
  exact ih g2 hr
 | sl tk hl hf _ ih1 ih =>
  intro G Os vs c hr
  match vs,hr with
  | v :: vs,⟨⟨r1,_⟩,r2⟩ =>
   subst r1
   obtain⟨O,os',c2⟩:=c.take tk
   have hrr:=c2.own.1
   have hlen:_=_:=hf.len
   simp only [List.length_map] at hlen
   obtain⟨g1,⟨g2,p,cap,g3⟩|⟨b,of,cap,rows,g2,g3,g4,g5,g6,g7,g8⟩⟩:=sl_of_own hrr hl
   ·obtain⟨G1,Os1,h1,_,h3⟩:=ih1 (vs:= []) c2.freeze (by rw [g2];trivial)
    obtain⟨G2,Os2,h4,h5,h6⟩:=ih h1 (r2.mono fun b hb=>h3 b (.inl hb))
    refine⟨G2,Os2,h4,⟨⟨by omega, .inl ⟨zQ (by rw [←hlen,g2];rfl),p,cap,g3⟩⟩,h5⟩,fun b hb=>h6 b (h3 b (.inl hb))⟩
   ·obtain⟨G1,Os1,h1,h2,h3⟩:=ih1 c2.freeze (RepLL.of g8).aggs
    obtain⟨G2,Os2,h4,h5,h6⟩:=ih h1 (r2.mono fun b hb=>h3 b (.inl hb))
    refine⟨G2,Os2,h4,⟨⟨by omega, .inr ⟨b,of,cap,rows,by rw [←hlen];exact g2,by omega,by omega,h6 _ (h3 _ g5),g6,g7,(RepLL.to (RepLL.unaggs h2) g8.sz).mono h6⟩⟩,h5⟩,fun b hb=>h6 b (h3 b (.inl hb))⟩
theorem CallA.fx{P:Program}{f:FuncId}{asx:List AV}{own:List Res}{K:AV→List Res→Prop}{a:AV}(h:CallA P f asx own K)(hK:∀r o,K r o→FX o [r] [a] []) : CallA P f asx own fun q o=>q=a∧o= [] :=
 ⟨fun hh G Os vs h1 h2=>(h.run hh G Os vs h1 h2).mono fun v' h' ⟨r,o,G',Os',hk,g1,g2⟩=>by
  obtain⟨G2,Os2,k1,k2,k3⟩:=(hK r o hk).rep g2 (vs:= [v']) ⟨g1,trivial⟩
  exact⟨a,[],G2,Os2,⟨rfl,rfl⟩,k2.1,k1⟩⟩
theorem FX.refl{o:List Res} :∀l:List AV,FX o l l o
 | []=> .nil
 | a :: l=> .le (ALe.refl a) (FX.refl l)
theorem FX.rows{α β:Type}{r:α→Res}{f:α→List AV}{g:β→List AV}{φ:α→β}{o:List Res} :∀L:List α,(∀x∈L,∀o',FX (r x :: o') (f x) (g (φ x)) o')→FX (L.map r ++ o) (L.map fun x=> .agg (f x)) ((L.map φ).map fun y=> .agg (g y)) o
 | [],_=> .nil
 | x :: L,hf=> .agg (hf x (by simp) _) (FX.rows L fun y hy=>hf y (by simp [hy]))
theorem CA.freezeX{P:Program}{tt:Nat→Option TI}{en:Nat→Bool}{ok:PgOK P tt en}{T0:Nat→Ord×(Nat→Cls)}{m0:Nat}{rs:Array ResultVar}{K:AV→List Res→Prop}{h0:Heap}{G0 O0:Nat→Prop}{k:List KI}{e:EA}{o:List Res}{y:Code}(t:Tmp){a b:AV}{rest:List Res}(ht:lookA e t=some a)(x:FX o [a] [b] rest)
  (h:CA ⟨P,tt,en,ok,T0,m0,rs,K,h0,G0,O0,⟨none⟩⟩ k y ((t,b) :: e) rest):CA ⟨P,tt,en,ok,T0,m0,rs,K,h0,G0,O0,⟨none⟩⟩ k y e o:=by
 refine⟨fun env hh G Os cn=>?_⟩
 obtain⟨w',e1,e2⟩:=cn.env t _ ht
 obtain⟨G',Os3,k1,k2,k3⟩:=x.rep cn.hp (vs:= [w']) ⟨e2,trivial⟩
 have c4:Con ⟨P,tt,en,ok,T0,m0,rs,K,h0,G0,O0,⟨none⟩⟩ ⟨e,rest⟩ env hh G' Os3:=⟨k1,fun q c hq=>by
  obtain⟨u,q1,q2⟩:=cn.env q c hq
  exact⟨u,q1,AV.mono _ k3 q2⟩,FpOK.none rfl⟩
 exact h.h env hh G' Os3 (con_re c4 t (fun w hw=>by rw [hw] at e1;cases e1;exact k2.1) ht)
theorem Cl.fx{Γ:Cx}{c:Cls}{f:FuncId}{asx:List AV}(as':List AV){o own:List Res}{M:AV→List Res→Prop}(x:FX o asx as' own)(hc:Cl Γ c f as' own M) : Cl Γ c f asx o M:=by
 refine⟨fun {h G Os vs} hp hr=>?_⟩
 obtain⟨G1,Os1,k1,k2,k3⟩:=x.rep hp hr
 refine(hc.ok k1 k2).mono fun v h' ⟨g1,r,o',G',Os',g2,g3,g4,g5,g6⟩=>?_
 exact⟨g1,r,o',G',Os',g2,g3,g4,g5.mono k3,fun b hb=>g6 b (k3 b hb)⟩
structure OX (o o':List Res):Prop where
 x:∀{h0:Heap} {G0 O0:Nat→Prop} {h:Heap} {G:Nat→Prop} {Os:List (Nat→Prop)},HpOK h0 G0 O0 o h G Os→∃G' Os',HpOK h0 G0 O0 o' h G' Os'∧∀b,G b→G' b
theorem OX.trans{o o1 o2:List Res}(a:OX o o1)(b:OX o1 o2) : OX o o2:=⟨fun c=>by
 obtain⟨G1,Os1,c1,g1⟩:=a.x c
 obtain⟨G2,Os2,c2,g2⟩:=b.x c1
 exact⟨G2,Os2,c2,fun b hb=>g2 b (g1 b hb)⟩⟩
theorem OX.blk{o r1 r2 r3:List Res}{b:Nat}{T:TypeId}{cs cs':List AV}(tk:Take o (blkR b T cs) r1)(x:FX o cs cs' r2)(tk2:Take r2 (blkR b T cs) r3) : OX o (blkR b T cs' :: r3):=⟨fun {h0 G0 O0 h G Os} c=>by
 obtain⟨O,os',c2⟩:=c.take tk
 obtain⟨ho,vs,hb,hr⟩:=c2.own.1
 obtain⟨G',Os',k1,k2,k3⟩:=x.rep c hr.t
 obtain⟨O2,os2,c3⟩:=k1.take tk2
 obtain⟨ho2,vs2,hb2,hr2⟩:=c3.own.1
 have hv:vs2=vs:=by
  have:=hb2.get.symm.trans hb.get
  simpa using this
 subst hv
 exact⟨G',O2 :: os2,c3.perm ⟨⟨ho2,vs2,hb2,⟨k2,hr.one⟩⟩,c3.own.2⟩ (List.Perm.refl _),k3⟩⟩
theorem CallA.own{P:Program}{f:FuncId}{asx:List AV}{own:List Res}{K K':AV→List Res→Prop}(h:CallA P f asx own K)(hK:∀r o,K r o→∃o',OX o o'∧K' r o') : CallA P f asx own K' :=
 ⟨fun hh G Os vs h1 h2=>(h.run hh G Os vs h1 h2).mono fun v' h' ⟨r,o,G',Os',hk,g1,g2⟩=>by
  obtain⟨o',⟨x⟩,hk'⟩:=hK r o hk
  obtain⟨G2,Os2,k1,k2⟩:=x g2
  exact⟨r,o',G2,Os2,hk',AV.mono _ k2 g1,k1⟩⟩
theorem CallA.args{P:Program}{f:FuncId}{asx as':List AV}{own:List Res}{K:AV→List Res→Prop}(w:RLe asx as')(h:CallA P f as' own K) : CallA P f asx own K :=
 ⟨fun hh G Os vs h1 h2=>h.run hh G Os vs (w.rep h1) h2⟩
theorem CA.own{P:Program}{tt:Nat→Option TI}{en:Nat→Bool}{ok:PgOK P tt en}{T0:Nat→Ord×(Nat→Cls)}{m0:Nat}{rs:Array ResultVar}{K:AV→List Res→Prop}{h0:Heap}{G0 O0:Nat→Prop}{k:List KI}{e:EA}{o o':List Res}{y:Code}(x:OX o o')
  (h:CA ⟨P,tt,en,ok,T0,m0,rs,K,h0,G0,O0,⟨none⟩⟩ k y e o'):CA ⟨P,tt,en,ok,T0,m0,rs,K,h0,G0,O0,⟨none⟩⟩ k y e o:=by
 refine⟨fun env hh G Os cn=>?_⟩
 obtain⟨G',Os3,k1,k3⟩:=x.x cn.hp
 exact h.h env hh G' Os3 ⟨k1,fun q c hq=>by
  obtain⟨u,q1,q2⟩:=cn.env q c hq
  exact⟨u,q1,AV.mono _ k3 q2⟩,FpOK.none rfl⟩
theorem PA.own{P:Program}{tt:Nat→Option TI}{en:Nat→Bool}{ok:PgOK P tt en}{T0:Nat→Ord×(Nat→Cls)}{m0:Nat}{rs:Array ResultVar}{K:AV→List Res→Prop}{h0:Heap}{G0 O0:Nat→Prop}{k:List KI}{e:EA}{o o':List Res}{z:Exit}(x:OX o o')
  (h:PA ⟨P,tt,en,ok,T0,m0,rs,K,h0,G0,O0,⟨none⟩⟩ k z e o'):PA ⟨P,tt,en,ok,T0,m0,rs,K,h0,G0,O0,⟨none⟩⟩ k z e o:=by
 refine⟨fun env hh G Os cn=>?_⟩
 obtain⟨G',Os3,k1,k3⟩:=x.x cn.hp
 exact h.h env hh G' Os3 ⟨k1,fun q c hq=>by
  obtain⟨u,q1,q2⟩:=cn.env q c hq
  exact⟨u,q1,AV.mono _ k3 q2⟩,FpOK.none rfl⟩
theorem FX.s1{α:Type}{o rest own:List Res}{l l':List AV}{v:Value}{T sz:Nat}{xs:List α}{f:α→List AV}(tk:Take o (arrR v T sz xs f) rest)(hl:xs.length≤9223372036854775807)(h:FX rest l l' own) : FX o (.ow v :: l) (.sl sz xs f :: l') own:= .sl tk hl (FX.refl _) h
theorem FX.k{o own:List Res}{a:AV}{l l':List AV}(h:FX o l l' own) : FX o (a :: l) (a :: l') own:= .le (ALe.refl a) h
theorem FX.kn{α:Type}{o own:List Res}{sz:Nat}{f:α→List AV}{l l':List AV}(h:FX o l l' own) : FX o (.val (.slice none 0 0) :: l) (.sl sz [] f :: l') own:= .le ALe.nil h
theorem Res.eq{a b:Res}(h:a.R=b.R) : a=b:=by
 cases a;cases b;cases h;rfl
theorem arrR_eq{α β:Type}{v:Value}{T sz:Nat}{l:List α}{f:α→List AV}{m:List β}{g:β→List AV}(he:l.map f=m.map g) : arrR v T sz l f=arrR v T sz m g:=Res.eq (by
 have hl:l.length=m.length:=by have:=congrArg List.length he;simpa using this
 funext h O G
 refine propext ⟨fun⟨ho,rows,h1,h2⟩=>⟨ho,rows,by rw [←hl];exact h1,h2.map he.symm⟩,fun⟨ho,rows,h1,h2⟩=>⟨ho,rows,by rw [hl];exact h1,h2.map he⟩⟩)
theorem ALe.nilow : ALe (.val (.slice none 0 0)) (.ow (.slice none 0 0)):=⟨fun h=>⟨h,none,0,0,rfl⟩⟩
theorem OX.recell{o rest:List Res}{b:Nat}{T:TypeId}{cs:List AV}(tk:Take o (blkR b T cs) rest)(cs':List AV)(w:RLe cs cs') : OX o (blkR b T cs' :: rest):=⟨fun {h0 G0 O0 h G Os} c=>by
 obtain⟨O,os',c2⟩:=c.take tk
 obtain⟨ho,vs,hb,hr⟩:=c2.own.1
 exact⟨G,O :: os',c2.perm ⟨⟨ho,vs,hb,⟨w.rep hr.t,hr.one⟩⟩,c2.own.2⟩ (List.Perm.refl _),fun _ h=>h⟩⟩
theorem OX.nil{α:Type}(o:List Res)(T sz:Nat)(f:α→List AV) : OX o (arrR (.slice none 0 0) T sz ([]:List α) f :: o):=⟨fun {_h0 _G0 _O0 _h G _Os} c=>⟨G,_,HpOK.nilA (o:=o) c T sz f,fun _ h=>h⟩⟩
structure FlatV (a:AV):Prop where
 h:∀{h:Heap} {G G':Nat→Prop} {v:Value},a.R h G v→a.R h G' v
structure FlatR (R:Res):Prop where
 h:∀{h:Heap} {O G G':Nat→Prop},R.R h O G→R.R h O G'
theorem FlatV.val(v:Value) : FlatV (.val v):=⟨fun h=>h⟩
theorem FlatV.ow(v:Value) : FlatV (.ow v):=⟨fun h=>h⟩
inductive FlatL:List AV→Prop where
 | nil:FlatL []
 | cons {a:AV} {l:List AV} : FlatV a→FlatL l→FlatL (a :: l)
theorem FlatL.rep{h:Heap}{G G':Nat→Prop}{l:List AV}(f:FlatL l) :∀{vs:List Value},RepT h G vs l→RepT h G' vs l:=by
 induction f with
 | nil=>intro vs hr;match vs,hr with | [],_=>trivial
 | cons ha _ ih =>
  intro vs hr
  match vs,hr with
  | v :: vs,⟨r1,r2⟩=>exact⟨ha.h r1,ih r2⟩
theorem FlatV.tup{l:List AV}(f:FlatL l) : FlatV (.tup l):=⟨fun⟨vs,h1,h2⟩=>⟨vs,h1,f.rep h2⟩⟩
theorem FlatR.arr{α:Type}{v:Value}{T sz:Nat}{l:List α}{f:α→List AV}(hf:∀x∈l,FlatL (f x)) : FlatR (arrR v T sz l f):=⟨fun⟨ho,rows,h1,h2⟩=>⟨ho,rows,h1,⟨h2.len,fun i r x g1 g2=>⟨(hf x (zM g2)).rep (h2.row i r x g1 g2).t,(h2.row i r x g1 g2).one⟩,h2.sz⟩⟩⟩
theorem FlatR.own{h:Heap}{G G':Nat→Prop} :∀{rs:List Res} {os:List (Nat→Prop)},(∀R∈rs,FlatR R)→OwnL h G rs os→OwnL h G' rs os
 | [],[],_,_=>trivial
 | R :: rs,O :: os,hf,⟨h1,h2⟩=>⟨(hf R (by simp)).h h1,FlatR.own (fun R hR=>hf R (by simp [hR])) h2⟩
 | [],_ :: _,_,h=>h.elim
 | _ :: _,[],_,h=>h.elim
theorem FlatR.bun{rs:List Res}(hf:∀R∈rs,FlatR R) : FlatR (bunR rs):=⟨fun⟨Os,h1,h2,h3⟩=>⟨Os,FlatR.own hf h1,h2,h3⟩⟩
theorem Cl.lendO{Γ:Cx}{c:Cls}{o:List Res}{f:FuncId}{asx as':List AV}{K:AV→List Res→Prop}{M:AV→List Res→Prop}(hc:CallA Γ.P f as' [] K)(hl:Lend o asx as')(hK:∀r own,K r own→FlatV r∧∀R∈own,FlatR R)(hm:∀r own,K r own→M r (own ++ o)) : Cl Γ c f asx o M:=by
 refine⟨fun {h G Os vs} hp hr=>?_⟩
 have hin:HpOK h (fun b=>G b∨U Os b) (U []) [] h (fun b=>G b∨U Os b) [] :=
  ⟨trivial,fun b hb=>⟨hb.elim (fun h9=>(hp.g b h9).1) (fun⟨O,hO,h9⟩=>(hp.o O hO b h9).1), .inl hb⟩,fun _ h=>h,fun O hO=>(by cases hO),List.Pairwise.nil,FPx.refl h⟩
 refine(hc.run h _ [] vs (hl.rep hp.own hr) hin).mono fun v h' ⟨r',own',G',Os',hk,g3,g4⟩=>?_
 obtain⟨f1,f2⟩:=hK _ _ hk
 have hst:Stp ([]:List Nat) h h':=⟨g4.fp.size,fun b hb _=>g4.fp.same b (fun⟨O,hO,_⟩=>by cases hO) hb⟩
 have hx:∀S,FPx S h h':=fun S=>⟨hst.size,fun b _ hb=>hst.same b hb (by simp)⟩
 have hs:=hp.fp.size
 have hs':=hst.size
 have hnew:∀O∈Os',∀b,O b→h.size≤b:=fun O hO b hb=>by
  rcases(g4.o O hO b hb).2.1 with⟨O2,hO2,_⟩|h9
  ·cases hO2
  ·exact h9
 refine⟨.inr hst,r',own' ++ o,G,Os' ++ Os,hm _ _ hk,f1.h g3,⟨(FlatR.own f2 g4.own).app (OwnL.stp (fun O _=>hx _) hp.own),fun b hb=>⟨by have:=(hp.g b hb).1;omega,(hp.g b hb).2.imp id fun q=>⟨q.1,q.2.eq (hst.same b (hp.g b hb).1 (by simp))⟩⟩,hp.g0,fun O hO b hb=>?_,List.pairwise_append.2 ⟨g4.d,hp.d,fun A hA B hB b ha hb=>?_⟩,⟨by omega,fun b hb hl=>?_⟩⟩,hx G,fun _ h=>h⟩
 ·rcases zV.1 hO with hO|hO
  ·have:=hnew O hO b hb
   exact⟨(g4.o O hO b hb).1, .inr (by omega),fun hg=>by have:=(hp.g b hg).1;omega⟩
  ·exact⟨by have:=(hp.o O hO b hb).1;omega,(hp.o O hO b hb).2⟩
 ·have:=hnew A hA b ha
  have:=(hp.o B hB b hb).1
  omega
 ·rw [hst.same b (by omega) (by simp)]
  exact hp.fp.same b hb hl
def delL{β:Type} : List (List Int×β)→List Int→List (List Int×β)
 | [],_=> []
 | (k,u) :: r,xs=>if k=xs then r else(k,u) :: delL r xs
theorem del_spec{β:Type} :∀(es:List MapEntry) (kvs:List (List Int×β)) (xs:List Int) (i:Nat),es.length=kvs.length→
  (fE es (kvs.map (·.1)) xs i=none∧delL kvs xs=kvs)∨∃j e,fE es (kvs.map (·.1)) xs i=some (i+j,e)∧j < es.length∧delL kvs xs=kvs.eraseIdx j
 | [],[],xs,i,_=> .inl ⟨rfl,rfl⟩
 | [],_ :: _,_,_,h=>by simp at h
 | _ :: _,[],_,_,h=>by simp at h
 | e :: es,(k,v) :: kvs,xs,i,h=>by
  by_cases hx:xs=k
  ·subst hx
   exact .inr ⟨0,e.val,by simp [fE],by simp,by simp [delL]⟩
  ·have hx':¬k=xs:=fun e=>hx e.symm
   rcases del_spec es kvs xs (i+1) (by simpa using h) with⟨h1,h2⟩|⟨j,e',h1,h2,h3⟩
   ·refine .inl ⟨?_, ?_⟩
    ·simp only [List.map_cons,fE,hx,if_false];exact h1
    ·simp only [delL,hx',if_false,h2]
   ·refine .inr ⟨j+1,e', ?_,by simp;omega, ?_⟩
    ·simp only [List.map_cons,fE,hx,if_false,h1];congr 2;omega
    ·simp only [delL,hx',if_false,h3,List.eraseIdx_cons_succ]
section
variable {Γ:Cx} {k:List KI} {e:EA} {o:List Res} {N:NA} {c:Cls} {d:Tmp} {ty:TypeId} {x y z:Operand} {t u:TypeId}
/-! ### delete -/
structure Mde (Γ:Cx) (c:Cls) (t:TypeId) (x y:Operand) (tys:Array TypeId) (ty:TypeId) (e:EA) (o:List Res) (N:NA) (m key:AV):Prop where
 h:tys[0]?=some t→evA e x=some m→evA e y=some key→isLoud c=true→SA Γ c none (.call { callee:= .builtin .delete,args:=#[x,y],argTypes:=tys }) ty e o N
instance {tys:Array TypeId} : Sp (SA Γ c none (.call { callee:= .builtin .delete,args:=#[x,y],argTypes:=tys }) ty e o N) (Rf (isLoud c=true) (Lk tys[0]? fun t=>Lk (evA e x) fun m=>Lk (evA e y) fun key=>Mde Γ c t x y tys ty e o N m key)):=⟨fun⟨hc,_,h0,_,h1,_,h2,h⟩=>h.h h0 h1 h2 hc⟩
theorem ld_del{P:Program}{tt:Nat→Option TI}{en:Nat→Bool}(ok:PgOK P tt en){n:Nat}{env:Env}{h:Heap}{K:Value→Heap→Prop}{p:Nat×Nat×TI}{b:Nat}{xs:List Int}{kv:Value}{es:Array MapEntry}{cl:Nat}{ks:List (List Int)}{tys:Array TypeId}(h0:tys[0]?=some t)(hp:mpE tt t=some p)(hf:flatI P 4 p.1=true)(hl:xs.length=P.cellsOf p.1)(hfv:FV P p.1 xs kv)
  (hx:ev env x=some (.map (some b))) (hy:ev env y=some kv) (hb:h[b]?=some (.map es cl)) (ho:KeysOK P p.1 es.toList ks)
  (kn:fE es.toList ks xs 0=none→K (.tuple #[]) (h.setIfInBounds b (.map es cl)))
  (ks':∀j u,fE es.toList ks xs 0=some (j,u)→K (.tuple #[]) (h.setIfInBounds b (.map (es.eraseIdxIfInBounds j) cl))):Ld P n (.call { callee:= .builtin .delete,args:=#[x,y],argTypes:=tys }) ty env h K:=by
 intro a w oo next Q ha hw hoo hty hn
 obtain⟨ti,t1,t2,t3⟩:=mpE_spec hp
 have hmu:=(ok.ok _ _ t1).map t2
 have hb':w.heap[b]?=some (.map es cl):=hw▸hb
 have hfk:=find_flat hf hfv hl es.toList ks ho w
 have hck:∀bb,(Instr.checkKey bb 10000 p.1 kv).run P w= .ok () w:=fun bb=>check_flat bb 4 p.1 hf 10000 (by decide) xs kv hl hfv w
 have fin:∀es',(Builtin.delete_ tys ty #[.map (some b),kv]).run P w= .ok (.tuple #[]) { w with heap:=w.heap.setIfInBounds b (.map es' cl) }→K (.tuple #[]) (h.setIfInBounds b (.map es' cl))→oo.upon P a next Q ((execOp a.eval oo).run P w):=by
  intro es' hr hk
  have hrun:(execOp a.eval (mkOp (.call { callee:= .builtin .delete,args:=#[x,y],argTypes:=tys }) ty)).run P w= .ok (.value (.tuple #[])) { w with heap:=w.heap.setIfInBounds b (.map es' cl) }:=by
   simp [mkOp,execOp,resolve,invoke,builtin,ha.ev hx,ha.ev hy,hr]
  rw [exec_mk,hoo,hty,hrun]
  exact hn _ _ (Same.of_set hb' rfl rfl) (by simp only [hw];exact hk)
 unfold Oper.wp
 cases hfe:fE es.toList ks xs 0 with
 | none =>
  rw [hfe] at hfk
  refine fin es ?_ (kn hfe)
  simp [Builtin.delete_,h0,run_underlying hmu,MapKept.run_getObj_map hb',hck,hfk,MapKept.run_setObj_map _ hb',Result.andThen]
 | some q =>
  obtain⟨j,u⟩:=q
  rw [hfe] at hfk
  refine fin _ ?_ (ks' j u hfe)
  simp [Builtin.delete_,h0,run_underlying hmu,MapKept.run_getObj_map hb',hck,hfk,MapKept.run_setObj_map _ hb',Result.andThen]
theorem erase_map{α γ:Type}(f:α→γ) :∀(l:List α) (j:Nat),(l.eraseIdx j).map f=(l.map f).eraseIdx j
 | [],_=>by simp
 | _ :: _,0=>by simp
 | a :: l,j+1=>by simp [erase_map f l j]
theorem nodup_erase{l:List Nat}(h:l.Nodup)(j:Nat) : (l.eraseIdx j).Nodup:=(List.eraseIdx_sublist l j).nodup h
/-! ### Ranges -/
def AV.top : AV:=⟨fun _ _ _=>True,fun _ h=>h,fun _ h=>h⟩
structure Rng (Γ:Cx) (c:Cls) (d:Tmp) (t:TypeId) (x:Operand) (ty:TypeId) (e:EA) (o:List Res) (N:NA) (m:AV):Prop where
 h:evA e x=some m→isLoud c=true→SA Γ c (some d) (.range t x) ty e o N
instance : Sp (SA Γ c (some d) (.range t x) ty e o N) (Rf (isLoud c=true) (Lk (evA e x) fun m=>Rng Γ c d t x ty e o N m)):=⟨fun⟨hc,_,h1,h⟩=>h.h h1 hc⟩
theorem left_perm{β:Type}{es:List MapEntry}{kvs:List (List Int×β)}(hn:(es.map (·.born)).Nodup)(hl:es.length=kvs.length)(seen:Array Nat){i:Nat}{e:MapEntry}{p:List Int×β}(he:es[i]?=some e)(hp:kvs[i]?=some p)(hs:seen.contains e.born=false) :
  (p :: ((es.zip kvs).filter fun q=> !(seen.push e.born).contains q.1.born).map (·.2)).Perm (((es.zip kvs).filter fun q=> !seen.contains q.1.born).map (·.2)):=by
 induction es generalizing kvs i with
 | nil=>simp at he
 | cons a es ih =>
  match kvs,hl with
  | q :: kvs,hl =>
   obtain⟨h1,h2⟩:=List.nodup_cons.1 hn
   rw [List.zip_cons_cons]
   cases i with
   | zero =>
    simp only [List.getElem?_cons_zero,Option.some.injEq] at he hp
    subst he;subst hp
    have hrest:(es.zip kvs).filter (fun q=> !(seen.push a.born).contains q.1.born)=(es.zip kvs).filter fun q=> !seen.contains q.1.born:=by
     refine List.filter_congr fun q hq=>?_
     have hne:q.1.born≠a.born:=fun h=>h1 (List.mem_map.2 ⟨q.1,(List.of_mem_zip hq).1,h⟩)
     have:(seen.push a.born).contains q.1.born=seen.contains q.1.born:=by
      rw [Bool.eq_iff_iff];simp [hne]
     rw [this]
    rw [List.filter_cons_of_neg (by simp),List.filter_cons_of_pos (by simp only [hs,Bool.not_false]),hrest,List.map_cons]
   | succ i =>
    simp only [List.getElem?_cons_succ] at he hp
    have ih':=ih h2 (by simpa using hl) he hp
    have hne:a.born≠e.born:=fun h=>h1 (List.mem_map.2 ⟨e,zM he,h.symm⟩)
    have hc:(seen.push e.born).contains a.born=seen.contains a.born:=by
     rw [Bool.eq_iff_iff];simp [hne]
    by_cases hsa:seen.contains a.born=true
    ·rw [List.filter_cons_of_neg (by simp only [hc,hsa];simp),List.filter_cons_of_neg (by simp only [hsa];simp)]
     exact ih'
    ·have hsa:seen.contains a.born=false:=by simpa using hsa
     rw [List.filter_cons_of_pos (by simp only [hc,hsa];simp),List.filter_cons_of_pos (by simp only [hsa];simp),List.map_cons,List.map_cons]
     exact(List.Perm.swap _ _ _).trans (ih'.cons q)
structure Nxi (Γ:Cx) (c:Cls) (d:Tmp) (x:Operand) (ty:TypeId) (e:EA) (o:List Res) (N:NA) (m:AV):Prop where
 h:evA e x=some m→isLoud c=true→SA Γ c (some d) (.next x false) ty e o N
instance : Sp (SA Γ c (some d) (.next x false) ty e o N) (Rf (isLoud c=true) (Lk (evA e x) fun m=>Nxi Γ c d x ty e o N m)):=⟨fun⟨hc,_,h1,h⟩=>h.h h1 hc⟩
structure NxK {β:Type} (rem:List (List Int×β)) (X:List Int×β→List (List Int×β)→Prop) (Y:Prop):Prop where
 x:∀p rem',(p :: rem').Perm rem→X p rem'
 y:rem= []→Y
end
def SetE(l:List ByteArray)(es:List MapEntry) : Prop:=(∀e∈es,∃s∈l,e.key= .string s∧e.val= .bool true)∧∀s∈l,∃e∈es,e.key= .string s
theorem SetE.key{l:List ByteArray}{es:List MapEntry}(h:SetE l es) :∀e∈es,MapKept.IsKey .string e.key:=fun e he=>by
 obtain⟨s,_,h1,_⟩:=h.1 e he
 rw [h1];trivial
def setS(b:Nat)(l:List ByteArray) : Res :=
  ⟨fun h O _=>(∀x,O x↔x=b)∧∃es cl,h[b]?=some (.map es cl)∧SetE l es.toList,
   by rintro h h' O G x ⟨ho,es,cl,h1,h2⟩;exact⟨ho,es,cl,(x.same b (.inl ((ho b).2 rfl)) (zA.1 h1).1).trans h1,h2⟩,
   by rintro h O G G' _ h2;exact h2,
   by rintro h O G ⟨ho,es,cl,h1,_⟩ y hy;rw [(ho y).1 hy];exact NC.of h1 rfl⟩
def AV.rs(l:List ByteArray) : AV :=
  ⟨fun h G v=>∃b es cl,v= .map (some b)∧G b∧b < h.size∧h[b]?=some (.map es cl)∧SetE l es.toList,
   by rintro h h' G v x ⟨b,es,cl,h1,h2,h3,h4,h5⟩;exact⟨b,es,cl,h1,h2,Nat.lt_of_lt_of_le h3 x.size,(x.same b h2 h3).trans h4,h5⟩,
   by rintro h G G' v x ⟨b,es,cl,h1,h2,h3⟩;exact⟨b,es,cl,h1,x b h2,h3⟩⟩
instance {l:List ByteArray} : OneA (AV.rs l):=⟨by rintro h G v ⟨b,_,_,rfl,_⟩;rfl⟩
theorem OX.set{P:Program}{β:Type}{o rest:List Res}{b:Nat}{kt:TypeId}{f:β→AV}(tk:Take o (mapR P b kt ([]:List (List Int×β)) f) rest) : OX o (setS b [] :: rest):=⟨fun {h0 G0 O0 h G Os} c=>by
 obtain⟨O,os',c2⟩:=c.take tk
 obtain⟨ho,es,cl,h1,h2,_⟩:=c2.own.1
 have he:es.toList= []:=by simpa using h2.len
 exact⟨G,O :: os',c2.perm ⟨⟨ho,es,cl,h1,by rw [he];exact⟨fun e h=>(by cases h),fun s h=>(by cases h)⟩⟩,c2.own.2⟩ (List.Perm.refl _),fun _ h=>h⟩⟩
noncomputable instance (s:ByteArray) (l:List ByteArray):Decidable (s∈l):=zC _
structure TkS (o:List Res) (b:Nat) (k:List ByteArray→List Res→Prop):Prop where
 ok:∃l rest,Take o (setS b l) rest∧k l rest
theorem TkS.r{o rest:List Res}{b:Nat}{k:List ByteArray→List Res→Prop}{l:List ByteArray}(h:Take o (setS b l) rest)(hk:k l rest) : TkS o b k:=⟨l,rest,h,hk⟩
section
variable {Γ:Cx} {k:List KI} {e:EA} {o:List Res} {N:NA} {c:Cls} {d:Tmp} {ty:TypeId} {x y z:Operand} {t u:TypeId}
theorem ld_mapS{P:Program}{tt:Nat→Option TI}{en:Nat→Bool}(ok:PgOK P tt en){n:Nat}{env:Env}{h:Heap}{op:Op}{K:Value→Heap→Prop}{p:Nat×Nat×TI}{tk:TI}{b:Nat}{s:ByteArray}{es:Array MapEntry}{cl:Nat}{l:List ByteArray}(hop:op= .insert t x y z∨op= .mapUpdate t x y z)(hp:mpE tt t=some p)(hk:tt p.1=some tk)(hs:tk.kind= .str)
  (hx:ev env x=some (.map (some b))) (hy:ev env y=some (.string s)) (hz:ev env z=some (.bool true)) (hb:h[b]?=some (.map es cl)) (ho:SetE l es.toList)
  (kn:∀es' cl' h',h'=h.setIfInBounds b (.map es' cl')→SetE (l ++ [s]) es'.toList→K undef h'):Ld P n op ty env h K:=by
 intro a w oo next Q ha hw hoo hty hn
 obtain⟨ti,t1,t2,t3⟩:=mpE_spec hp
 have hmu:=(ok.ok _ _ t1).map t2
 have hku:=(ok.ok _ _ hk).str hs
 have hb':w.heap[b]?=some (.map es cl):=hw▸hb
 have hck:∀bb,(Instr.checkKey bb 10000 p.1 (.string s)).run P w= .ok () w:=fun bb=>MapKept.run_checkKey hku (d:= .string) (k:= .string s) trivial bb 9999
 have fin:∀es' cl',(Instr.mapUpdate t (.map (some b)) (.string s) (.bool true)).run P w= .ok () { w with heap:=w.heap.setIfInBounds b (.map es' cl') }→SetE (l ++ [s]) es'.toList→oo.upon P a next Q ((execOp a.eval oo).run P w):=by
  intro es' cl' hr hset
  have hrun:(execOp a.eval (mkOp op ty)).run P w= .ok .skip { w with heap:=w.heap.setIfInBounds b (.map es' cl') }:=by
   rcases hop with rfl|rfl <;> simp [mkOp,execOp,ha.ev hx,ha.ev hy,ha.ev hz,hr]
  rw [exec_mk,hoo,hty,hrun]
  exact hn _ _ (Same.of_set hb' rfl rfl) (kn es' cl' _ (by simp only [hw]) hset)
 unfold Oper.wp
 rcases MapKept.findNow_spec (d:= .string) (k:= .string s) trivial es.toList 0 ho.key with⟨h1,h2⟩|⟨j,e0,h1,h2,h3⟩
 ·have hfk:=MapKept.run_findKey (w:=w) hku h1
  refine fin (es.push { key:= .string s,val:= .bool true,born:=cl }) (cl+1) ?_ ⟨fun e he=>?_,fun q hq=>?_⟩
  ·simp only [Instr.mapUpdate,Sem.run_bind,run_underlying hmu,Result.andThen_ok,MapKept.run_getObj_map hb',hck,hfk,MapKept.run_setObj_map _ hb']
  ·rw [Array.toList_push,zV,zH] at he
   rcases he with he|rfl
   ·obtain⟨q,hq,h9⟩:=ho.1 e he
    exact⟨q,List.mem_append_left _ hq,h9⟩
   ·exact⟨s,by simp,rfl,rfl⟩
  ·rw [Array.toList_push]
   rcases zV.1 hq with hq|hq
   ·obtain⟨e,he,h9⟩:=ho.2 q hq
    exact⟨e,List.mem_append_left _ he,h9⟩
   ·rw [zH.1 hq]
    exact⟨_,List.mem_append_right _ (zH.2 rfl),rfl⟩
 ·have hfk:=MapKept.run_findKey (w:=w) hku h1
  rw [Nat.zero_add] at hfk
  have he0:es[j]?=some e0:=by simpa using h2
  have hkeep:(Instr.keyThatStays (.string s) (.string s)).run P w= .ok (.string s) w:=MapKept.run_keyThatStays (d:= .string) (k:= .string s) trivial
  refine fin (es.modify j fun e=>{ e with key:= .string s,val:= .bool true }) cl ?_ ⟨fun e he=>?_,fun q hq=>?_⟩
  ·simp only [Instr.mapUpdate,Sem.run_bind,run_underlying hmu,Result.andThen_ok,MapKept.run_getObj_map hb',hck,hfk,he0,Option.map_some,Option.getD_some,h3,hkeep,MapKept.run_setObj_map _ hb']
  ·obtain⟨i,hi⟩:=zO he
   rw [Array.toList_modify,List.getElem?_modify] at hi
   obtain⟨e1,he1,rfl⟩:=Option.map_eq_some_iff.1 hi
   split
   ·exact⟨s,by simp,rfl,rfl⟩
   ·obtain⟨q,hq,h9⟩:=ho.1 e1 (zM he1)
    exact⟨q,List.mem_append_left _ hq,h9⟩
  ·have hmem:∀(i:Nat) (e1:MapEntry),es.toList[i]?=some e1→∃e∈(es.modify j fun e=>{ e with key:= .string s,val:= .bool true }).toList,e=if j=i then { e1 with key:= .string s,val:= .bool true } else e1:=fun i e1 hi=>by
    refine⟨_,zM (i:=i) ?_,rfl⟩
    rw [Array.toList_modify,List.getElem?_modify,hi]
    by_cases hji:j=i <;> simp [hji]
   rcases zV.1 hq with hq|hq
   ·obtain⟨e,he,h9⟩:=ho.2 q hq
    obtain⟨i,hi⟩:=zO he
    obtain⟨e',he',h10⟩:=hmem i e hi
    refine⟨e',he', ?_⟩
    rw [h10]
    by_cases hji:j=i
    ·rw [if_pos hji]
     subst hji
     rw [h2] at hi;cases hi
     rw [←h9,h3]
    ·rw [if_neg hji];exact h9
   ·rw [zH.1 hq]
    obtain⟨e',he',h10⟩:=hmem j e0 h2
    exact⟨e',he',by rw [h10,if_pos rfl]⟩
instance (priority:=1100) {op:Op} {b:Nat} {s:ByteArray} : Sp (Mup Γ c op t x y z ty e o N (.val (.map (some b))) (.val (.string s)) (.val (.bool true))) (Lk (mpE Γ.tt t) fun p=>Lk (Γ.tt p.1) fun tk=>Rf (tk.kind= .str) (TkS o b fun l rest=>N e (setS b (l ++ [s]) :: rest))):=⟨fun⟨p,hp,tk,hk,hs,l,rest,tak,hn⟩=>⟨fun hop ha hb hv hc=>⟨fun env hh G Os cn=>by
 obtain⟨m,g1,rfl⟩:=cn.get ha
 obtain⟨kv,g2,rfl⟩:=cn.get hb
 obtain⟨vv,g3,rfl⟩:=cn.get hv
 obtain⟨O,Os',cn2⟩:=cn.take tak
 obtain⟨⟨ho,es,cl,hb0,hset⟩,_⟩:=cn2.hp.own
 have hlt:=(zA.1 hb0).1
 refine .ofLd hc (ld_mapS Γ.ok hop hp hk hs g1 g2 g3 hb0 hset fun es' cl' h' he hset'=>?_)
 subst he
 have hx:FPx (fun y=>¬O y) hh (hh.setIfInBounds b (.map es' cl')):=⟨by simp,fun y hy hl=>by rw [Array.getElem?_setIfInBounds,if_neg (fun e9=>hy ((ho y).2 e9.symm))]⟩
 exact CN.mk (cn2.upd (R':=setS b (l ++ [s])) (O':=O) hx (fun y hy=>⟨by have:=(cn2.hp.o O (by simp) y hy).1;simpa using this, .inl hy⟩) ⟨ho,es',cl',by simp [hlt],hset'⟩) hn⟩⟩⟩
theorem St.lookupS{γ:Type}[Membership Nat γ]{fp:γ}{P:Program}{tt:Nat→Option TI}{en:Nat→Bool}(pok:PgOK P tt en){n:Nat}{env:Env}{h:Heap}{N':Env→Heap→Prop}{p:Nat×Nat×TI}{tk:TI}{b:Nat}{s:ByteArray}{es:Array MapEntry}{cl:Nat}{l:List ByteArray}(hc:notPure c=true)(hp:mpE tt t=some p)(hk:tt p.1=some tk)(hs:tk.kind= .str)(hz:p.2.2.zero= .bool false)
  (hx:ev env x=some (.map (some b))) (hy:ev env y=some (.string s)) (hb:h[b]?=some (.map es cl)) (ho:SetE l es.toList) (hnf:b ∉ fp) (k:N' ((d, .bool (decide (s∈l))) :: env) h):St P n fp c (some d) (.lookup t x y false) ty env h N':=by
 refine .ofRd hc (v:= .bool (decide (s∈l))) (fun a w ha hw=>?_) k
 obtain⟨ti,t1,t2,t3⟩:=mpE_spec hp
 have hmu:=(pok.ok _ _ t1).map t2
 have hku:=(pok.ok _ _ hk).str hs
 have hlt:=(zA.1 hb).1
 have hb':w.heap[b]?=some (.map es cl):=(hw.same b hlt hnf).trans hb
 have hck:∀bb,(Instr.checkKey bb 10000 p.1 (.string s)).run P w= .ok () w:=fun bb=>MapKept.run_checkKey hku (d:= .string) (k:= .string s) trivial bb 9999
 have hzr:=(pok.ok _ _ t3).run_zero w
 rcases MapKept.findNow_spec (d:= .string) (k:= .string s) trivial es.toList 0 ho.key with⟨h1,h2⟩|⟨j,e0,h1,h2,h3⟩
 ·have hfk:=MapKept.run_findKey (w:=w) hku h1
  have hn:s ∉ l:=fun hm=>by
   obtain⟨e,he,h9⟩:=ho.2 s hm
   exact h2 e he h9
  rw [zF hn]
  simp only [mkOp,execOp,ha.ev hx,ha.ev hy,Instr.lookup,Sem.run_bind,run_underlying hmu,Result.andThen_ok,MapKept.run_getObj_map hb',Sem.run_pure,hck,hfk,hzr,hz]
  rfl
 ·have hfk:=MapKept.run_findKey (w:=w) hku h1
  obtain⟨q,hq,h5,h6⟩:=ho.1 e0 (zM h2)
  have hm:s∈l:=by
   rw [h3] at h5
   injection h5 with h5
   rw [h5];exact hq
  rw [zT hm]
  simp only [mkOp,execOp,ha.ev hx,ha.ev hy,Instr.lookup,Sem.run_bind,run_underlying hmu,Result.andThen_ok,MapKept.run_getObj_map hb',Sem.run_pure,hck,hfk,h6]
  rfl
instance (priority:=1100) {b:Nat} {s:ByteArray} : Sp (Lup Γ c d t x y false ty e o N (.val (.map (some b))) (.val (.string s))) (NfV Γ.fp c (Lk (mpE Γ.tt t) fun p=>Lk (Γ.tt p.1) fun tk=>Rf (tk.kind= .str) (Rf (p.2.2.zero= .bool false) (TkS o b fun l _=>N ((d, .val (.bool (decide (s∈l)))) :: e) o)))):=⟨fun⟨hnf,p,hp,tk,hk,hs,hz,l,rest,tak,hn⟩=>⟨fun ha hb hc=>⟨fun env hh G Os cn=>by
 obtain⟨m,g1,rfl⟩:=cn.get ha
 obtain⟨kv,g2,rfl⟩:=cn.get hb
 obtain⟨O,Os',cn2⟩:=cn.take tak
 obtain⟨⟨ho,es,cl,hb0,hset⟩,_⟩:=cn2.hp.own
 exact St.unread hc (fun hc hnb=>St.lookupS Γ.ok hc hp hk hs hz g1 g2 hb0 hset hnb (CN.mk (cn.put d (a:= .val (.bool _)) rfl) hn)) (fun h=>hnf h _)⟩⟩⟩
instance {l:List ByteArray} {s:ByteArray} : Sp (Lup Γ c d t x y false ty e o N (.rs l) (.val (.string s))) (Lk (mpE Γ.tt t) fun p=>Lk (Γ.tt p.1) fun tk=>Rf (tk.kind= .str) (Rf (p.2.2.zero= .bool false) (N ((d, .val (.bool (decide (s∈l)))) :: e) o))):=⟨fun⟨p,hp,tk,hk,hs,hz,hn⟩=>⟨fun ha hb hc=>⟨fun env hh G Os cn=>by
 obtain⟨m,g1,b,es,cl,rfl,q1,q2,q3,q4⟩:=cn.get ha
 obtain⟨kv,g2,rfl⟩:=cn.get hb
 exact St.unread hc (fun hc hnb=>St.lookupS Γ.ok hc hp hk hs hz g1 g2 q3 q4 hnb (CN.mk (cn.put d (a:= .val (.bool _)) rfl) hn)) (fun _=>cn.nf.not_mem q1)⟩⟩⟩
end
theorem CallG.fzS{P:Program}{f:FuncId}{asx:List AV}{own:List Res}{l:List ByteArray}(h:CallG P f asx own fun r o=>∃b,r= .val (.map (some b))∧o= [setS b l]) : CallG P f asx own fun q o=>q= .rs l∧o= [] :=
 ⟨fun hh G Os vs h1 h2 ha=>(h.run hh G Os vs h1 h2 ha).mono fun v' h' ⟨r,o,G',Os',⟨b,e1,e2⟩,g1,g2⟩=>by
  subst e1;subst e2
  have g1:v'=_:=g1
  subst g1
  match Os',g2.own with
  | O :: [],ho =>
   have c3:=g2.freeze
   obtain⟨⟨h3,es,cl,h4,h5⟩,_⟩:=ho
   exact⟨_,_,_,_,⟨rfl,rfl⟩,⟨b,es,cl,rfl, .inr ((h3 b).2 rfl),(zA.1 h4).1,h4,h5⟩,c3⟩⟩
end Go.CF
namespace Go.Proofs.YtmjllbjfkafhdaaGreatDoor
open Go Go.CF
theorem byteAt_eq(s:ByteArray)(j:Nat) : byteAt s j=((s.data[j]?.map fun b=>(b.toNat:Int)).getD 0):=by
 unfold byteAt
 by_cases h:j < s.size
 ·rw [getElem?_pos s j h,getElem?_pos s.data j h];rfl
 ·rw [getElem?_neg s j h,getElem?_neg s.data j h]
theorem byteAt_ext(s:ByteArray)(a b i:Nat)(hb:b≤s.size)(h:a+i < b) : byteAt (s.extract a b) i=byteAt s (a+i):=by
 rw [byteAt_eq,byteAt_eq,ByteArray.data_extract,Array.getElem?_extract,if_pos (by have:s.data.size=s.size:=rfl;omega)]
theorem ext_size(s:ByteArray)(a:Nat) : (s.extract a s.size).size=s.size - a:=by simp
theorem ext_ext(s:ByteArray)(a b c d:Nat)(h2:a+d≤b) : (s.extract a b).extract c d=s.extract (a+c) (a+d):=by
 apply ByteArray.ext
 simp only [ByteArray.data_extract,Array.extract_extract]
 congr 1
 omega
theorem ba_ext{a b:ByteArray}(h:a.toList=b.toList) : a=b:=by
 rw [ByteArray.toList_eq,ByteArray.toList_eq] at h
 exact ByteArray.ext (Array.ext' h)
theorem hasS_mem{l:List ByteArray}{s:ByteArray} : HasS l s↔s∈l:=⟨fun⟨q,hq,he⟩=>by rw [←ba_ext he];exact hq,fun h=>⟨s,h,rfl⟩⟩
noncomputable instance (x:Int):Decidable (isWord x):=zC _
theorem letter8_p(x:Int) : CallP Tryz.prog 283 [.val (.int .u8 x)] (.val (.bool (decide (isLetter x)))):=by
 refine CallA.of pg ordZ Tryz.func283 rfl Tryz.ntmps283 Tryz.results283 rfl fun h0 G0 O0=>?_
 repeat'(first|apply Sp.h|refine Lk.r rfl ?_|refine Rf.mk rfl ?_|refine xA ?_|refine xB ?_|apply Bd.mk|refine xN ?_|intro _)
 all_goals refine Fin.p rfl (vb ?_)
 all_goals first
  | exact zD.2 (by unfold isLetter;omega)
  | exact(zF (by unfold isLetter;omega)).symm
theorem digit8_p(x:Int) : CallP Tryz.prog 286 [.val (.int .u8 x)] (.val (.bool (decide (isDigit x)))):=by
 refine CallA.of pg ordZ Tryz.func286 rfl Tryz.ntmps286 Tryz.results286 rfl fun h0 G0 O0=>?_
 repeat'(first|apply Sp.h|refine Lk.r rfl ?_|refine Rf.mk rfl ?_|refine xA ?_|refine xB ?_|apply Bd.mk|refine xN ?_|intro _)
 all_goals refine Fin.p rfl (vb ?_)
 all_goals first
  | exact zD.2 (by unfold isDigit;omega)
  | exact(zF (by unfold isDigit;omega)).symm
theorem white8_p(x:Int) : CallP Tryz.prog 288 [.val (.int .u8 x)] (.val (.bool (decide (isWhite x)))):=by
 refine CallA.of pg ordZ Tryz.func288 rfl Tryz.ntmps288 Tryz.results288 rfl fun h0 G0 O0=>?_
 repeat'(first|apply Sp.h|refine Lk.r rfl ?_|refine Rf.mk rfl ?_|refine xA ?_|refine xB ?_|apply Bd.mk|refine xN ?_|intro _)
 all_goals refine Fin.p rfl (vb ?_)
 all_goals first
  | exact zD.2 (by unfold isWhite;omega)
  | exact(zT (by unfold isWhite;omega)).symm
theorem part_p(x:Int) : CallP Tryz.prog 285 [.val (.int .u8 x)] (.val (.bool (decide (isWord x)))):=by
 refine CallA.of pg ordZ Tryz.func285 rfl Tryz.ntmps285 Tryz.results285 rfl fun h0 G0 O0=>?_
 by_cases hl:isLetter x
 ·repeat'(first|apply Sp.h|refine Lk.r rfl ?_|refine Rf.mk rfl ?_|refine xA ?_|refine xN ?_|(apply Cl.p (letter8_p _);focus repeat' constructor)|(apply Cl.p (digit8_p _);focus repeat' constructor))
  all_goals exact Fin.p rfl (vb (zT (show isWord x from .inl hl)).symm)
 ·by_cases hd:isDigit x
  ·repeat'(first|apply Sp.h|refine Lk.r rfl ?_|refine Rf.mk rfl ?_|refine xA ?_|refine xB ?_|refine xN ?_|(apply Cl.p (letter8_p _);focus repeat' constructor)|(apply Cl.p (digit8_p _);focus repeat' constructor))
   all_goals exact Fin.p rfl (vb (zT (show isWord x from .inr (.inl hd))).symm)
  ·repeat'(first|apply Sp.h|refine Lk.r rfl ?_|refine Rf.mk rfl ?_|refine xB ?_|refine xN ?_|(apply Cl.p (letter8_p _);focus repeat' constructor)|(apply Cl.p (digit8_p _);focus repeat' constructor))
   refine Fin.p rfl (vb (zD.2 ?_))
   exact⟨fun h=> .inr (.inr h),fun h=>(h.resolve_left hl).resolve_left hd⟩
theorem notnl_p(x:Int) : CallP Tryz.prog 303 [.val (.int .u8 x)] (.val (.bool (decide (x≠10)))):=by
 refine CallA.of pg ordZ Tryz.func303 rfl Tryz.ntmps303 Tryz.results303 rfl fun h0 G0 O0=>?_
 repeat'(first|apply Sp.h|refine Lk.r rfl ?_|refine Rf.mk rfl ?_|refine xN ?_|fail)
 all_goals refine Fin.p rfl (vb ?_)
 all_goals exact zD.2 Iff.rfl
structure RunN (p:Int→Prop) (s:ByteArray) (n:Nat):Prop where
 le:n≤s.size
 a:∀i,i < n→p (byteAt s i)
 b:n < s.size→¬p (byteAt s n)
theorem RunN.ex(p:Int→Prop)(s:ByteArray) :∃n,RunN p s n:=by
 have key:∀m n:Nat,s.size - n=m→n≤s.size→(∀i,i < n→p (byteAt s i))→∃n,RunN p s n:=by
  intro m
  induction m with
  | zero=>exact fun n h1 h2 h3=>⟨n,h2,h3,fun h=>by omega⟩
  | succ m ih =>
   intro n h1 h2 h3
   by_cases hp:p (byteAt s n)
   ·refine ih (n+1) (by omega) (by omega) fun i hi=>?_
    by_cases he:i=n
    ·subst he;exact hp
    ·exact h3 i (by omega)
   ·exact⟨n,h2,h3,fun _=>hp⟩
 exact key _ 0 rfl (zZ _) fun i h=>by omega
theorem run_p{f:FuncId}{p:Int→Prop}[DecidablePred p](hen:en f=true)(hf:∀x,CallP Tryz.prog f [.val (.int .u8 x)] (.val (.bool (decide (p x))))){s:ByteArray}{n:Nat}(hs:s.size≤1000000000)(h:RunN p s n) : CallP Tryz.prog 284 [sv s, .fn f []] (it n):=by
 refine CallA.of pg ordZ Tryz.func284 rfl Tryz.ntmps284 Tryz.results284 rfl fun h0 G0 O0=>?_
 repeat'(first|apply Sp.h|refine Lk.r rfl ?_|refine Rf.mk rfl ?_|fail)
 refine CA.loop (fun i:Nat=>⟨[(0,sv s),(1, .fn f []),(5,it i)],[]⟩) (fun i=>i≤n) (fun i=>n - i) 0 xE (zZ _) ?_
 intro i hi
 have hle:=h.le
 by_cases hin:i < n
 ·have hp:=h.a i hin
  repeat'(first|apply Sp.h|refine Lk.r rfl ?_|refine Rf.mk rfl ?_|refine xA ?_|(apply Rf.mk;(focus assumption))|(apply Sx.r;(focus exact rfl);(focus first|omega|(simp;omega)))|refine xO ?_|(apply Cl.p (hf _);focus repeat' constructor))
  all_goals first
   | exact PA.lp (i+1) xE ⟨hin,by omega⟩
   | exact absurd hp (by assumption)
 ·have:i=n:=by omega
  subst this
  by_cases hsz:i < s.size
  ·have hp:=h.b hsz
   repeat'(first|apply Sp.h|refine Lk.r rfl ?_|refine Rf.mk rfl ?_|refine xA ?_|refine xB ?_|refine xN ?_|(apply Rf.mk;(focus assumption))|(apply Sx.r;(focus exact rfl);(focus first|omega|(simp;omega)))|(apply Cl.p (hf _);focus repeat' constructor))
   all_goals first
    | exact Fin.p rfl rfl
    | exact absurd (by assumption) hp
  ·repeat'(first|apply Sp.h|refine Lk.r rfl ?_|refine Rf.mk rfl ?_|refine xB ?_|refine xN ?_|(apply Cl.p (hf _);(focus repeat'(first|fail))))
   exact Fin.p rfl rfl
theorem comm_run{s:ByteArray}{a b:Nat}(h:Comm s a b) : a≤s.size→RunN (fun x=>x≠10) (s.extract a s.size) (b - a):=by
 induction h with
 | @stop a h =>
  intro ha
  rw [Nat.sub_self]
  refine⟨zZ _,fun i hi=>by omega,fun h1 h2=>h ⟨?_, ?_⟩⟩
  ·rw [ext_size] at h1;omega
  ·rw [ext_size] at h1
   rwa [byteAt_ext s a s.size 0 (Nat.le_refl _) (by omega)] at h2
 | @step a b h1 h2 h3 ih =>
  intro ha
  have ih:=ih h1
  have hle:=h3.le h1
  have hl:=ih.le
  rw [ext_size] at hl
  have hsh:∀i,a+1+i < s.size→byteAt (s.extract (a+1) s.size) i=byteAt (s.extract a s.size) (i+1):=fun i hi=>by
   rw [byteAt_ext s (a+1) s.size i (Nat.le_refl _) hi,byteAt_ext s a s.size (i+1) (Nat.le_refl _) (by omega)]
   congr 1;omega
  refine⟨by rw [ext_size];omega,fun i hi=>?_,fun hb=>?_⟩
  ·cases i with
   | zero=>rw [byteAt_ext s a s.size 0 (Nat.le_refl _) (by omega)];exact h2
   | succ i=>rw [←hsh i (by omega)];exact ih.a i (by omega)
  ·rw [ext_size] at hb
   have h9:=ih.b (by rw [ext_size];omega)
   rw [hsh _ (by omega)] at h9
   rwa [show b - a=b - (a+1)+1 by omega]
theorem skip8_p{s:ByteArray}{j:Nat}(hs:s.size≤1000000000)(h:Skip s 0 j) : CallP Tryz.prog 282 [sv s] (it j):=by
 have hnl:en 303=true:=rfl
 refine CallA.of pg ordZ Tryz.func282 rfl Tryz.ntmps282 Tryz.results282 rfl fun h0 G0 O0=>?_
 repeat'(first|apply Sp.h|refine Lk.r rfl ?_|refine Rf.mk rfl ?_|fail)
 refine CA.loop (fun a:Nat=>⟨[(0,sv s),(3,it a)],[]⟩) (fun a=>a≤s.size∧Skip s a j) (fun a=>s.size - a) 0 xE ⟨zZ _,h⟩ ?_
 rintro a ⟨ha,h⟩
 cases h with
 | stop hn =>
  by_cases hl:j < s.size
  ·have hw:¬isWhite (byteAt s j):=fun h9=>hn ⟨hl, .inl h9⟩
   have h35:byteAt s j≠35:=fun h9=>hn ⟨hl, .inr h9⟩
   repeat'(first|apply Sp.h|refine Lk.r rfl ?_|refine Rf.mk rfl ?_|refine xA ?_|refine xB ?_|refine xN ?_|(apply Sx.r;(focus exact rfl);(focus first|omega|(simp;omega)))|(apply Cl.p (white8_p _);focus repeat' constructor))
   exact Fin.p rfl rfl
  ·have:j=s.size:=by omega
   repeat'(first|apply Sp.h|refine Lk.r rfl ?_|refine Rf.mk rfl ?_|refine xB ?_|refine xN ?_|(apply Cl.p (white8_p _);(focus repeat'(first|fail))))
   exact Fin.p rfl rfl
 | white h1 h2 h3 h4 =>
  repeat'(first|apply Sp.h|refine Lk.r rfl ?_|refine Rf.mk rfl ?_|refine xA ?_|(apply Sx.r;(focus exact rfl);(focus first|omega|(simp;omega)))|refine xO ?_|(apply Cl.p (white8_p _);focus repeat' constructor))
  exact PA.lp (a+1) xE ⟨⟨h1,h4⟩,by omega⟩
 | com h1 h2 h3 h4 =>
  rename_i b
  have hw:¬isWhite (byteAt s a):=by unfold isWhite;omega
  have hb:=h3.lt h1 h2
  have hrp:=run_p hnl notnl_p (s:=s.extract a s.size) (by rw [ext_size];omega) (comm_run h3 ha)
  repeat'(first|apply Sp.h|refine Lk.r rfl ?_|refine Rf.mk rfl ?_|refine xA ?_|refine xB ?_|(apply Jx.r;(focus exact rfl);(focus first|omega|(simp;done)|(simp;omega)))|(apply Sx.r;(focus exact rfl);(focus first|omega|(simp;omega)))|refine xO ?_|(apply Cl.p (white8_p _);focus repeat' constructor)|(apply Cl.p (hrp);focus repeat' constructor))
  rw [show(a:Int)+((b - a:Nat):Int)=(b:Nat) by omega]
  exact PA.lp b xE ⟨⟨hb.2,h4⟩,by omega⟩
end Go.Proofs.YtmjllbjfkafhdaaGreatDoor
namespace Go.CF
open Go
section
variable {Γ:Cx} {k:List KI} {e:EA} {o:List Res} {N:NA} {c:Cls} {d:Tmp} {ty:TypeId} {x y z:Operand} {t u:TypeId} {kk:IntKind} {i j:Int}
instance : Sp (Ap2 Γ c d (.binOp .and t x y u) ty e o N x (.val (.int kk i)) y (.val (.int kk j))) (N ((d, .val (.int kk (bits .and kk i j))) :: e) o):=⟨fun hn=>puv2 hn fun _ _ _ h h' k=> .ofPu (pu_int h h' fun w=>by rw [binOp_and];rfl) k⟩
instance : Sp (Ap2 Γ c d (.binOp .or t x y u) ty e o N x (.val (.int kk i)) y (.val (.int kk j))) (N ((d, .val (.int kk (bits .or kk i j))) :: e) o):=⟨fun hn=>puv2 hn fun _ _ _ h h' k=> .ofPu (pu_int h h' fun w=>by rw [binOp_or];rfl) k⟩
instance : Sp (Ap1 Γ c d (.unOp .xor t x) ty e o N x (.val (.int .i64 i))) (N ((d, .val (.int .i64 (bits .xor .i64 (-1) i))) :: e) o):=⟨fun hn=>puv1 (fun _ _=>rfl) hn fun _ _ _ h k=> .ofPu (fun a w ha=>by simp only [mkOp,execOp,ha.ev h];rfl) k⟩
structure ExtF (P:Program) (f:FuncId) (g:Array Value→Sem Value):Prop where
 ok:∃fn,P.funcs[f]?=some fn∧(fn.name == "runtime.NumGoroutine")=false∧fn.body.isNone=true∧Extern.findNext fn=none∧Extern.find fn=some g
structure IxB (a b:AV) (M:Int→Prop):Prop where
 ok:∃s q,a= .val (.string s)∧b= .val (.int .u8 q)∧M (Go.Lib.indexByte s.data.toList q.toNat.toUInt8)
instance {s:ByteArray} {q:Int} {M:Int→Prop} : Sp (IxB (.val (.string s)) (.val (.int .u8 q)) M) (M (Go.Lib.indexByte s.data.toList q.toNat.toUInt8)):=⟨fun h=>⟨s,q,rfl,rfl,h⟩⟩
theorem SA.idxb{f:FuncId}(hf:ExtF Γ.P f Extern.BytealgIndexByte.indexByte){tys:Array TypeId}(hc:isLoud c=true)(h:Lk (evA e x) fun a=>Lk (evA e y) fun b=>IxB a b fun r=>N ((d, .val (.int .i64 r)) :: e) o) :
  SA Γ c (some d) (.call { callee:= .value (.func f),args:=#[x,y],argTypes:=tys }) ty e o N:=by
 obtain⟨a,ha,b,hb,s,q,rfl,rfl,hn⟩:=h
 refine⟨fun env hh G Os cn=>?_⟩
 obtain⟨w1,g1,hw1⟩:=cn.get ha
 have hw1:w1=_:=hw1
 subst hw1
 obtain⟨w2,g2,hw2⟩:=cn.get hb
 have hw2:w2=_:=hw2
 subst hw2
 obtain⟨fn,hf1,hf2,hf3,hf4,hf5⟩:=hf.ok
 refine St.ofLd hc fun a w oo next Q ha' hwh hop hty hnn=>?_
 have hrun:(execOp a.eval (mkOp (.call { callee:= .value (.func f),args:=#[x,y],argTypes:=tys }) ty)).run Γ.P w= .ok (.value (.int .i64 (Go.Lib.indexByte s.data.toList q.toNat.toUInt8))) w:=by
  have h1:=run_callFunc_extern hf1 hf2 hf3 hf4 hf5 #[.string s, .int .u8 q] w
  rw [Go.Lib.run_indexByteString] at h1
  simp [mkOp,execOp,resolve,invoke,Deferred.ofValue,ha'.ev g1,ha'.ev g2,ha'.ev (x:= .func f) (v:= .func (.func f) #[] #[]) rfl,h1]
 unfold Oper.wp
 rw [exec_mk,hop,hty,hrun]
 exact hnn _ w (Same.refl w) (hwh▸CN.mk (cn.put d (a:= .val _) rfl) hn)
end
end Go.CF
namespace Go.Proofs.YtmjllbjfkafhdaaGreatDoor
open Go Go.CF
def spB(s:ByteArray)(i:Nat) : Bool:=isWsN (byteAt s i).toNat
theorem byteAt_rg(s:ByteArray)(i:Nat) : 0≤byteAt s i∧byteAt s i≤255:=by
 unfold byteAt
 cases s[i]? with
 | none=>simp
 | some b=>simp;have:=b.toNat_lt;omega
theorem or_lt{x y:Int}(hx:0≤x∧x < 128)(hy:0≤y∧y < 128) : 0≤bits .or .u8 x y∧bits .or .u8 x y < 128:=by
 obtain⟨a,rfl⟩:=Int.eq_ofNat_of_zero_le hx.1
 obtain⟨b,rfl⟩:=Int.eq_ofNat_of_zero_le hy.1
 have h1:(BitVec.ofInt 8 (a:Int) ||| BitVec.ofInt 8 (b:Int)).toNat=a ||| b:=by
  rw [BitVec.ofInt_natCast,BitVec.ofInt_natCast,BitVec.toNat_or,BitVec.toNat_ofNat,BitVec.toNat_ofNat,Nat.mod_eq_of_lt (by omega),Nat.mod_eq_of_lt (by omega)]
 have h2:a ||| b < 128:=Nat.or_lt_two_pow (n:=7) (by omega) (by omega)
 have h3:bits .or .u8 (a:Int) (b:Int)=((a ||| b:Nat):Int):=by
  show IntKind.wrap .u8 ((BitVec.ofInt 8 (a:Int) ||| BitVec.ofInt 8 (b:Int)).toNat:Int)=_
  rw [h1]
  exact wrap_u8 (by omega)
 rw [h3]
 omega
def cntW(s:ByteArray) : Nat→Nat
 | 0=>0
 | i+1=>cntW s i+(bif spB s i then 0 else match i with | 0=>1|j+1=>bif spB s j then 1 else 0)
def wasW(s:ByteArray) : Nat→Int
 | 0=>1
 | i+1=>bif spB s i then 1 else 0
theorem wasW_cases(s:ByteArray)(i:Nat) : wasW s i=0∨wasW s i=1:=by
 cases i with
 | zero=>exact .inr rfl
 | succ i=>simp only [wasW];cases spB s i <;> simp
theorem bits_w{w sp:Int}(hw:w=0∨w=1)(hs:sp=0∨sp=1) : bits .and .i64 w (bits .xor .i64 (-1) sp)=if w=1∧sp=0 then 1 else 0:=by
 rcases hw with rfl|rfl <;> rcases hs with rfl|rfl <;> decide
theorem cntW_succ(s:ByteArray)(i:Nat) : (cntW s (i+1):Int)=cntW s i+bits .and .i64 (wasW s i) (bits .xor .i64 (-1) (bif spB s i then 1 else 0)):=by
 rw [bits_w (wasW_cases s i) (by cases spB s i <;> simp)]
 simp only [cntW]
 cases hs:spB s i
 ·simp only [cond_false,and_true]
  cases i with
  | zero=>simp [wasW]
  | succ j=>simp only [wasW];rcases Bool.eq_false_or_eq_true (spB s j) with h|h <;> simp [h]
 ·simp
theorem cntW_le(s:ByteArray) :∀i,cntW s i≤i:=by
 intro i
 induction i with
 | zero=>exact Nat.le_refl _
 | succ i ih =>
  simp only [cntW]
  have:(bif spB s i then 0 else match i with | 0=>1|j+1=>bif spB s j then 1 else 0)≤1:=by
   cases spB s i
   ·simp only [cond_false]
    split
    ·exact Nat.le_refl _
    ·rename_i j;cases spB s j <;> simp
   ·simp
  omega
structure SkS (s:ByteArray) (a j:Nat):Prop where
 le:a≤j∧j≤s.size
 a:∀i,a≤i→i < j→spB s i=true
 b:j < s.size→spB s j=false
inductive Fld (s:ByteArray):Nat→Nat→List (Nat×Nat)→Prop where
 | done {start:Nat} :¬start < s.size→Fld s s.size start []
 | last {start:Nat} : start < s.size→Fld s s.size start [(start,s.size)]
 | word {i start:Nat} {out:List (Nat×Nat)} : i < s.size→spB s i=false→Fld s (i+1) start out→Fld s i start out
 | cut {i start j:Nat} {out:List (Nat×Nat)} : i < s.size→spB s i=true→SkS s (i+1) j→Fld s j j out→Fld s i start ((start,i) :: out)
def skC(s:ByteArray) : Nat→Nat→Nat
 | 0,a=>a
 | f+1,a=>bif Nat.blt a s.size && spB s a then skC s f (a+1) else a
theorem blt_no{a b:Nat}(h:¬a < b) : Nat.blt a b=false:=by
 rw [Bool.eq_false_iff]
 intro h2
 rw [Nat.blt_eq] at h2
 exact h h2
theorem skC_ok{s:ByteArray} :∀(f a:Nat),s.size - a≤f→a≤s.size→SkS s a (skC s f a):=by
 intro f
 induction f with
 | zero=>exact fun a h1 h2=>⟨⟨Nat.le_refl _,h2⟩,fun i h3 h4=>by simp only [skC] at h4;omega,fun h=>by simp only [skC] at h;omega⟩
 | succ f ih =>
  intro a h1 h2
  simp only [skC]
  by_cases hc:(Nat.blt a s.size && spB s a)=true
  ·rw [hc]
   show SkS s a (skC s f (a+1))
   simp only [Bool.and_eq_true,Nat.blt_eq] at hc
   have:=ih (a+1) (by omega) (by omega)
   refine⟨⟨by have:=this.le.1;omega,this.le.2⟩,fun i h3 h4=>?_,this.b⟩
   by_cases hi:i=a
   ·subst hi;exact hc.2
   ·exact this.a i (by omega) h4
  ·have hc2:(Nat.blt a s.size && spB s a)=false:=by rw [Bool.eq_false_iff];exact hc
   rw [hc2]
   show SkS s a a
   refine⟨⟨Nat.le_refl _,h2⟩,fun i h3 h4=>by omega,fun h=>?_⟩
   cases hs:spB s a
   ·rfl
   ·exact absurd (by simp [hs,h]) hc
def fldC(s:ByteArray) : Nat→Nat→Nat→List (Nat×Nat)
 | 0,_,_=> []
 | f+1,i,start=>bif Nat.blt i s.size then(bif spB s i then(start,i) :: fldC s f (skC s s.size (i+1)) (skC s s.size (i+1)) else fldC s f (i+1) start) else bif Nat.blt start s.size then [(start,s.size)] else []
theorem fldC_ok{s:ByteArray} :∀(f i start:Nat),s.size - i < f→i≤s.size→Fld s i start (fldC s f i start):=by
 intro f
 induction f with
 | zero=>intro i start h;omega
 | succ f ih =>
  intro i start h1 h2
  simp only [fldC]
  by_cases hi:i < s.size
  ·rw [show Nat.blt i s.size=true by simpa using hi,cond_true]
   cases hs:spB s i
   ·exact .word hi hs (ih _ _ (by omega) (by omega))
   ·have hk:=skC_ok (s:=s) s.size (i+1) (by omega) (by omega)
    have h3:=hk.le
    exact .cut hi hs hk (ih _ _ (by omega) h3.2)
  ·have:i=s.size:=by omega
   subst this
   rw [blt_no (by omega),cond_false]
   by_cases hst:start < s.size
   ·rw [show Nat.blt start s.size=true by simpa using hst];exact .last hst
   ·rw [blt_no hst];exact .done hst
theorem Fld.le{s:ByteArray}{i start:Nat}{out:List (Nat×Nat)}(h:Fld s i start out) : i≤s.size:=by
 cases h with
 | done=>exact Nat.le_refl _
 | last=>exact Nat.le_refl _
 | word h=>omega
 | cut h=>omega
def wrdF(s:ByteArray)(out:List (Nat×Nat)) : List ByteArray:=out.map fun p=>s.extract p.1 p.2
theorem repl_set{α:Type}(acc:List α)(m:Nat)(z y:α) : (acc ++ List.replicate (m+1) z).set acc.length y=(acc ++ [y]) ++ List.replicate m z:=by
 rw [List.set_append_right _ _ (Nat.le_refl _),Nat.sub_self,List.replicate_succ,List.set_cons_zero,List.append_assoc]
 rfl
theorem repl_get{α:Type}(acc:List α)(m:Nat)(z:α) : (acc ++ List.replicate (m+1) z)[acc.length]?=some z:=by
 rw [zJ (Nat.le_refl _),Nat.sub_self,List.replicate_succ]
 rfl
theorem amb0 : 0∈ambG Tryz.prog:=by
 have h:ambG Tryz.prog= [0]:=by kernel_rfl
 rw [h];simp
theorem fields_a(s:ByteArray)(i0:Nat)(out:List (Nat×Nat))(h7:∀i,i < s.size→byteAt s i < 128)(hs:s.size≤1000)(hk0:SkS s 0 i0)(hf0:Fld s i0 i0 out)(hn:cntW s s.size=out.length) :
  CallG Tryz.prog 302 [sv s] [] fun r own=>∃v,r= .ow v∧own= [arrR v 9 1 (wrdF s out) strC]:=by
 have hg0:=amb0
 have htb:∀k,k < 256→(ascVs.map AV.val)[k]?=some (.val (.int .u8 (bif isWsN k then 1 else 0))):=fun k hk=>ascVs_at hk
 obtain⟨asc,hasc⟩:∃asc,asc=ascVs.map AV.val:=⟨_,rfl⟩
 rw [←hasc] at htb
 refine CallG.of pg ordZ Tryz.func302 rfl Tryz.ntmps302 Tryz.results302 rfl fun h0 G0 O0 ga=>?_
 repeat'(first|apply Sp.h|refine Lk.r rfl ?_|refine Rf.mk rfl ?_|fail)
 refine CA.loop (fun x:Nat×Int=>⟨[(0,sv s),(3,it (cntW s x.1:Nat)),(4,it (wasW s x.1)),(5, .val (.int .u8 x.2)),(6,it x.1)],[]⟩) (fun x=>x.1≤s.size∧0≤x.2∧x.2 < 128) (fun x=>s.size - x.1) (0,0) xE ⟨zZ _,by simp,by simp⟩ ?_
 rintro⟨i,b⟩ ⟨hi,hb1,hb2⟩
 simp only at hi hb1 hb2
 simp only
 by_cases hin:i < s.size
 ·have hr:=byteAt_rg s i
  have h9:=h7 i hin
  have hbq:byteAt s i=(((byteAt s i).toNat:Nat):Int):=by omega
  have hcs:=cntW_succ s i
  have hcl:=cntW_le s i
  have hcl2:=cntW_le s (i+1)
  have hob:=or_lt ⟨hb1,hb2⟩ ⟨hr.1,h9⟩
  have ht:=htb (0+(byteAt s i).toNat) (by omega)
  rw [Nat.zero_add] at ht
  have hws:wasW s (i+1)=bif spB s i then 1 else 0:=rfl
  cases hsp:spB s i
  all_goals
   have hsp':isWsN (byteAt s i).toNat=_:=hsp
   rw [hsp] at hcs hws
   rw [hsp'] at ht
   simp only [cond_true,cond_false] at ht hcs hws
   have ht':=ht
   rw [←Nat.zero_add (byteAt s i).toNat] at ht'
   repeat'(first|(apply Lk.r;(focus with_reducible exact ht'))|(apply Jx.r;(focus with_reducible exact hbq);(focus omega))|(apply Ldp.glob;(focus exact ga);(focus exact hg0);(focus exact hasc))|apply Sp.h|refine Lk.r rfl ?_|refine Rf.mk rfl ?_|refine xA ?_|(apply Sx.r;(focus exact rfl);(focus first|omega|(simp;omega)))|refine xO ?_|(apply Cvk.i64;(focus rfl);(focus omega))|fail)
   rw [←hcs]
   refine PA.lp (i+1,_) ?_ ⟨⟨hin,hob.1,hob.2⟩,by simp only;omega⟩
   simp only [hws]
   exact xE
 have hie:i=s.size:=by omega
 subst hie
 have hcl:=cntW_le s s.size
 -- what the table says of a byte
 have htab:∀q,q < s.size→byteAt s q=(((byteAt s q).toNat:Nat):Int)∧byteAt s q < 128∧asc[0+(byteAt s q).toNat]?=some (.val (.int .u8 (bif spB s q then 1 else 0))):=fun q hq=>by
  have hr:=byteAt_rg s q
  have h9:=h7 q hq
  refine⟨by omega,h9, ?_⟩
  rw [Nat.zero_add,htb _ (by omega)]
  rfl
 repeat'(first|apply Sp.h|refine Lk.r rfl ?_|refine Rf.mk rfl ?_|refine xB ?_|refine xN ?_|refine Rf.mk ⟨rfl,rfl,rfl⟩ ?_|(apply Jx.r;(focus exact rfl);(focus first|omega|(simp;done)|(simp;omega)))|fail)
 refine MkS.r strC ⟨#[]⟩ rfl ?_
 refine⟨fun v=>?_⟩
 repeat'(first|apply Sp.h|refine Lk.r rfl ?_|refine Rf.mk rfl ?_|fail)
 refine CA.loop (fun i:Nat=>⟨[(0,sv s),(9, .ow v),(10,it (0:Nat)),(12,it i)],[arrR v 9 1 (List.replicate (cntW s s.size) ⟨#[]⟩) strC]⟩) (fun i=>i≤i0) (fun i=>i0 - i) 0 xE (zZ _) ?_
 intro i hi1
 have hi0:=hk0.le.2
 by_cases hin:i < i0
 ·obtain⟨g1,g2,g3⟩:=htab i (by omega)
  rw [hk0.a i (zZ _) hin,cond_true] at g3
  repeat'(first|(apply Lk.r;(focus with_reducible exact g3))|(apply Jx.r;(focus with_reducible exact g1);(focus omega))|(apply Ldp.glob;(focus exact ga);(focus exact hg0);(focus exact hasc))|apply Sp.h|refine Lk.r rfl ?_|refine Rf.mk rfl ?_|refine xA ?_|refine xB ?_|(apply Sx.r;(focus exact rfl);(focus first|omega|(simp;omega)))|refine xO ?_|fail)
  exact PA.lp (i+1) xE ⟨hin,by omega⟩
 have hie:i=i0:=by omega
 subst hie
 have hcase:(i < s.size∧byteAt s i=(((byteAt s i).toNat:Nat):Int)∧byteAt s i < 128∧asc[0+(byteAt s i).toNat]?=some (.val (.int .u8 0)))∨¬i < s.size:=by
  by_cases hsz:i < s.size
  ·obtain⟨g1,g2,g3⟩:=htab i hsz
   rw [hk0.b hsz,cond_false] at g3
   exact .inl ⟨hsz,g1,g2,g3⟩
  ·exact .inr hsz
 have g1:byteAt s i=byteAt s i:=rfl
 have g3:asc[0]?=asc[0]?:=rfl
 rcases hcase with⟨hsz,g1,g2,g3⟩|hsz
 all_goals
  repeat'(first|(apply Lk.r;(focus with_reducible exact g3))|(apply Jx.r;(focus with_reducible exact g1);(focus omega))|(apply Ldp.glob;(focus exact ga);(focus exact hg0);(focus exact hasc))|apply Sp.h|refine Lk.r rfl ?_|refine Rf.mk rfl ?_|refine xA ?_|refine xB ?_|(apply Sx.r;(focus exact rfl);(focus first|omega|(simp;omega)))|fail)
  refine CA.loop (fun x:Nat×Nat×List ByteArray×List (Nat×Nat)=>⟨[(0,sv s),(9, .ow v),(10,it (x.2.2.1.length:Nat)),(11,it x.2.1),(12,it x.1)],[arrR v 9 1 (x.2.2.1 ++ List.replicate x.2.2.2.length ⟨#[]⟩) strC]⟩) (fun x=>Fld s x.1 x.2.1 x.2.2.2∧x.2.1≤x.1∧x.2.2.1 ++ wrdF s x.2.2.2=wrdF s out∧x.2.2.1.length≤x.1) (fun x=>s.size - x.1) (i,i,[],out) ?_ ⟨hf0,Nat.le_refl _,rfl,zZ _⟩ ?_
  ·simp only [List.nil_append,←hn,List.length_nil]
   exact xE
  rintro⟨i,start,acc,out'⟩ ⟨hF,hst,hacc,hal⟩
  simp only at hF hst hacc hal
  simp only
  have hile:=hF.le
  cases hF with
  | done hns =>
   repeat'(first|apply Sp.h|refine Lk.r rfl ?_|refine Rf.mk rfl ?_|refine xB ?_|refine xN ?_|fail)
   simp only [List.length_nil,List.replicate_zero,List.append_nil]
   simp only [wrdF,List.map_nil,List.append_nil] at hacc
   rw [hacc]
   exact⟨_,_, .one (.same (.z)),_,rfl,rfl⟩
  | last hs2 =>
   rw [show [(start,s.size)].length=0+1 from rfl]
   have hix:=repl_get acc 0 (⟨#[]⟩:ByteArray)
   repeat'(first|apply Sp.h|refine Lk.r rfl ?_|refine Rf.mk rfl ?_|refine xA ?_|refine xB ?_|refine xU ?_|refine xI ?_|refine xJ ?_|refine xV ?_|refine xN ?_|(apply Jx.r;(focus exact rfl);(focus first|omega|(simp;done)|(simp;omega)))|refine Up.r rfl ?_|fail)
   rw [repl_set]
   simp only [List.replicate_zero,List.append_nil]
   simp only [wrdF,List.map_cons,List.map_nil] at hacc
   rw [hacc]
   exact⟨_,_, .one (.same (.z)),_,rfl,rfl⟩
  | word hi2 hsp hF2 =>
   obtain⟨g1,g2,g3⟩:=htab i hi2
   rw [hsp,cond_false] at g3
   repeat'(first|(apply Lk.r;(focus with_reducible exact g3))|(apply Jx.r;(focus with_reducible exact g1);(focus omega))|(apply Ldp.glob;(focus exact ga);(focus exact hg0);(focus exact hasc))|apply Sp.h|refine Lk.r rfl ?_|refine Rf.mk rfl ?_|refine xA ?_|(apply Sx.r;(focus exact rfl);(focus first|omega|(simp;omega)))|refine xO ?_|fail)
   exact PA.lp (i+1,start,acc,out') xE ⟨⟨hF2,by simp only;omega,hacc,by simp only;omega⟩,by simp only;omega⟩
  | @cut _ _ j out2 hi2 hsp hsk hF2 =>
   obtain⟨g1,g2,g3⟩:=htab i hi2
   rw [hsp,cond_true] at g3
   rw [show((start,i) :: out2).length=out2.length+1 from rfl]
   have hix:=repl_get acc out2.length (⟨#[]⟩:ByteArray)
   repeat'(first|(apply Lk.r;(focus with_reducible exact g3))|(apply Jx.r;(focus with_reducible exact g1);(focus omega))|(apply Ldp.glob;(focus exact ga);(focus exact hg0);(focus exact hasc))|apply Sp.h|refine Lk.r rfl ?_|refine Rf.mk rfl ?_|refine xA ?_|refine xB ?_|refine xU ?_|refine xI ?_|refine xJ ?_|refine xV ?_|(apply Jx.r;(focus exact rfl);(focus first|omega|(simp;done)|(simp;omega)))|refine Up.r rfl ?_|(apply Sx.r;(focus exact rfl);(focus first|omega|(simp;omega)))|refine xO ?_|fail)
   rw [repl_set]
   refine CA.loop (fun k:Nat=>⟨[(0,sv s),(9, .ow v),(10,it ((acc.length:Nat)+1)),(12,it k)],[arrR v 9 1 (acc ++ [s.extract start i] ++ List.replicate out2.length ⟨#[]⟩) strC]⟩) (fun k=>i+1≤k∧k≤j) (fun k=>j - k) (i+1) xE ⟨Nat.le_refl _,hsk.le.1⟩ ?_
   rintro k ⟨hk1,hk2⟩
   have hj2:=hsk.le.2
   by_cases hkj:k < j
   ·obtain⟨g1,g2,g3⟩:=htab k (by omega)
    rw [hsk.a k hk1 hkj,cond_true] at g3
    repeat'(first|(apply Lk.r;(focus with_reducible exact g3))|(apply Jx.r;(focus with_reducible exact g1);(focus omega))|(apply Ldp.glob;(focus exact ga);(focus exact hg0);(focus exact hasc))|apply Sp.h|refine Lk.r rfl ?_|refine Rf.mk rfl ?_|refine xA ?_|refine xB ?_|(apply Sx.r;(focus exact rfl);(focus first|omega|(simp;omega)))|refine xO ?_|fail)
    exact PA.lp (k+1) xE ⟨⟨by omega,hkj⟩,by omega⟩
   ·have:k=j:=by omega
    subst this
    have hgo:Fld s k k out2∧k≤k∧(acc ++ [s.extract start i]) ++ wrdF s out2=wrdF s out∧(acc ++ [s.extract start i]).length≤k:=by
     refine⟨hF2,Nat.le_refl _, ?_,by simp;omega⟩
     rw [←hacc]
     simp [wrdF]
    have hcase:(k < s.size∧byteAt s k=(((byteAt s k).toNat:Nat):Int)∧byteAt s k < 128∧asc[0+(byteAt s k).toNat]?=some (.val (.int .u8 0)))∨¬k < s.size:=by
     by_cases hsz:k < s.size
     ·obtain⟨g1,g2,g3⟩:=htab k hsz
      rw [hsk.b hsz,cond_false] at g3
      exact .inl ⟨hsz,g1,g2,g3⟩
     ·exact .inr hsz
    rcases hcase with⟨hsz,g1,g2,g3⟩|hsz
    all_goals
     repeat'(first|(apply Lk.r;(focus with_reducible exact g3))|(apply Jx.r;(focus with_reducible exact g1);(focus omega))|(apply Ldp.glob;(focus exact ga);(focus exact hg0);(focus exact hasc))|apply Sp.h|refine Lk.r rfl ?_|refine Rf.mk rfl ?_|refine xA ?_|refine xB ?_|(apply Sx.r;(focus exact rfl);(focus first|omega|(simp;omega)))|fail)
     refine PA.lp (k,k,acc ++ [s.extract start i],out2) ?_ ⟨hgo,by simp only;omega⟩
     simp only [zP,List.length_singleton]
     exact xE
end Go.Proofs.YtmjllbjfkafhdaaGreatDoor
