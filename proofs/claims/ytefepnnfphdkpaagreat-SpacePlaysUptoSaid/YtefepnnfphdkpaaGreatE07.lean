/- SpacePlays: a part of its proof; conditions: its statement's. -/
import Derived.Test.YtefepnnfphdkpaaGreatE06
namespace Go.Proofs.YtefepnnfphdkpaaGreat.Am
open Go
section
variable {P:Program} {c:Ctx} {σ:H} {w:World}
theorem H6 {k n:Nat}{x:V}{new:List V}(h:Rel c σ w)(I:srcV σ k x=some (new,n))(hx:wf c x):
  (Builtin.lenOf (conc c x)).run P w=.ok n w∧(Builtin.firstCells k n (conc c x)).run P w=.ok ((new.map (conc c)).toArray) w ∧
   new.length=n*k∧∀v∈new,wf c v∧storable v=true:=by
 unfold srcV at I
 split at I
 ·simp only [ak,aC] at I
  obtain ⟨rfl,rfl⟩:=I
  exact ⟨by simp [Builtin.lenOf,conc],by simp [Builtin.firstCells,conc],by simp,by simp⟩
 ·simp only [ak,aC] at I
  obtain ⟨rfl,rfl⟩:=I
  exact ⟨by simp [Builtin.lenOf,conc],by simp [Builtin.firstCells,conc,loadCells,loadCellsFrom],by simp,by simp⟩
 ·rename_i id off len cap
  cases J:rdN σ id off (len*k) with
  | none=>simp [J] at I
  | some cs =>
   simp [J] at I
   obtain ⟨rfl,rfl⟩:=I
   obtain ⟨a,m,h1,h2,_,_⟩:=y6 (P:=P) h hx J (fun e=>by rw [e]; simp)
   obtain ⟨h3,h4,_⟩:=sB h J
   rw [h1]
   exact ⟨by simp [Builtin.lenOf],by simp [Builtin.firstCells,h2],h3,h4⟩
 ·rename_i l
  cases J:Nat.beq k 1 with
  | false=>simp [J] at I
  | true =>
   have:=beq_iff.1 J
   subst this
   simp only [J,ag,ak,aC] at I
   obtain ⟨rfl,rfl⟩:=I
   have hl:∀y∈l,y<256:=by simpa [wf] using hx
   have fC:(⟨(l.map UInt8.ofNat).toArray⟩:ByteArray).size=l.length:=by simp [ByteArray.size]
   refine ⟨by simp [Builtin.lenOf,conc,fC],?_,by simp [ofBytes],fun v hv => ?_⟩
   ·simp only [Builtin.firstCells,conc,Sem.run_pure]
    have:((⟨(l.map UInt8.ofNat).toArray⟩:ByteArray).extract 0 l.length)=⟨(l.map UInt8.ofNat).toArray⟩:=by
     apply rS
     simp [fq]
    rw [this,xh c hl]
   ·obtain ⟨n,rfl⟩:=uo hv
    exact ⟨by simp [wf],rfl⟩
 ·simp at I
theorem append_room {ts:Array TypeId}{t u ty e:TypeId}{i:TypeInfo}{du:TypeDesc}(h0:ts[0]?=some t)(h1:ts[1]?=some u)(ht:P.underlying t=some (.slice e))(hu:P.underlying u=some du)
 (KW:∀k,du≠.int k)(hi:P.info? e=some i)(base:Option Addr)(I J n:Nat)(x:Value)(new:Array Value)
 (hl:(Builtin.lenOf x).run P w=.ok n w)(hf:(Builtin.firstCells i.size n x).run P w=.ok new w)(hle:I+n≤J):
  (Builtin.append_ ts ty #[.slice base I J,x]).run P w=match base with
   | none=>.ok (.slice none (I+n) J) w
   | some a=>((storeCells (a.add (I*i.size)) new.toList).run P w).andThen fun _ w'=>.ok (.slice (some a) (I+n) J) w':=by
 have fC:(sizeOf e).run P w=.ok i.size w:=by simp [sizeOf,typeInfo,hi]
 simp only [Builtin.append_,h0,h1,m6,nY,kW,Sem.run_bind,run_underlying ht,run_underlying hu,Result.andThen_ok,fC]
 cases du
 case int k=>exact absurd rfl (KW k)
 all_goals simp only [Sem.run_pure,Result.andThen_ok,dW,bG,hl,hle,bE,Sem.run_bind,hf,Cs]
 all_goals cases base <;> simp
theorem vM {n b:Nat}: kf n b=true↔n≤140737488355328∧n*b≤140737488355328:=by
 unfold kf
 rw [aJ,aF,aF]
theorem uq {ts:Array TypeId}{t u ty e:TypeId}{i:TypeInfo}{du:TypeDesc}{z:Value}(h0:ts[0]?=some t)(h1:ts[1]?=some u)(ht:P.underlying t=some (.slice e))
 (hu:P.underlying u=some du)(KW:∀k,du≠.int k)(hi:P.info? e=some i)(tJ:i.zero=some z)(base:Option Addr)(I J n:Nat)(x:Value)(old new:Array Value)
 (hl:(Builtin.lenOf x).run P w=.ok n w)(hf:(Builtin.firstCells i.size n x).run P w.drew=.ok new w.drew)
 (ho:(Builtin.firstCells i.size I (.slice base I J)).run P w.drew=.ok old w.drew)(hg:J<I+n)(hb:kf (I+n) i.bytes=true):
  ∃cap,I+n≤cap∧(Builtin.append_ ts ty #[.slice base I J,x]).run P w =
   .ok (.slice (some ⟨w.heap.size,0,none⟩) (I+n) cap) (w.drew.alloc (.cells (old++new++Builtin.zeroCells z.cells (cap-(I+n))) e)):=by
 have fC:∀w,(sizeOf e).run P w=.ok i.size w:=fun w=>by simp [sizeOf,typeInfo,hi]
 have KV:∀w,(typeInfo e).run P w=.ok i w:=fun w=>by simp [typeInfo,hi]
 have Zd:∀w,(zeroValue e).run P w=.ok z w:=fun w=>by simp [zeroValue,typeInfo,hi,tJ]
 have hn:¬ (I+n≤J):=by omega
 obtain ⟨sA,va⟩:=vM.1 hb
 have Ze:¬ (((I+n:Nat):Int)>IntKind.i64.max):=by
  rw [IntKind.max_i64]; omega
 have Zf:¬ (Builtin.nextslicecap (I+n) J*i.bytes>2^48):=by
  have:=growslice_fits (need:=I+n) (old:=J) (bytes:=i.bytes) hg va
  omega
 refine ⟨(Question.appendCap (I+n) J e).cut (w.tape w.drawn (.appendCap (I+n) J e)),by simp [Question.cut],?_⟩
 simp only [Builtin.append_,h0,h1,m6,nY,kW,Sem.run_bind,run_underlying ht,run_underlying hu,Result.andThen_ok,fC]
 cases du
 case int k=>exact absurd rfl (KW k)
 all_goals simp only [Sem.run_pure,Result.andThen_ok,dW,bG,hl,hn,KV,Sem.run_bind,Ze,false_and,Zf,Cs,bE,run_choose,Question.forced,run_askRoom]
 all_goals simp only [World.drew_eq,ho,hf,Zd,Result.andThen_ok,Go.newRow,Sem.run_bind,run_newObj,Sem.run_pure,World.alloc_eq]
 all_goals rfl
theorem CA (z:Array Value)(n:Nat): (Builtin.zeroCells z n).size=n*z.size:=by simp [Builtin.zeroCells]
theorem xk {e:TypeId}{k:Nat}{old new:List V}{need cap:Nat}{zs:Array Value}(h:Rel c σ w)(hk:1≤k)(ho:∀v∈old,wf c v∧storable v=true)(hn:∀v∈new,wf c v∧storable v=true)
 (hlen:old.length+new.length=need*k)(Cy:need≤cap)(Zg:zs.size=(cap-need)*k):
  ∃c',conc c' (.sl σ.next 0 need (.rest k 0))=.slice (some ⟨w.heap.size,0,none⟩) need cap∧wf c' (.sl σ.next 0 need (.rest k 0)) ∧
   Rel c' (nc σ k old new need).2 (w.drew.alloc (.cells ((old.map (conc c)).toArray++(new.map (conc c)).toArray++zs) e)) ∧
   cF c w c' (w.drew.alloc (.cells ((old.map (conc c)).toArray++(new.map (conc c)).toArray++zs) e)):=by
 have lI:∀v∈old++new,wf c v∧storable v=true:=fun v hv=>by
  rcases List.mem_append.1 hv with hv | hv
  ·exact ho v hv
  ·exact hn v hv
 obtain ⟨g1,g2⟩:=h.drew.newRow lI e zs.toList
 have J:(((old++new).map (conc c))++zs.toList).toArray=(old.map (conc c)).toArray++(new.map (conc c)).toArray++zs:=by
  apply iL
  simp
 have fC:(old++new).length+zs.toList.length=cap*k:=by
  simp only [bU,yI,hlen,Zg]
  rw [←iK]
  congr 1
  omega
 have jQ:(old++new).length=need*k:=by simpa using hlen
 rw [J,fC,jQ] at g1
 rw [J,fC] at g2
 refine ⟨_,?_,?_,g1,(cF.drew c w).trans g2⟩
 ·have vK:(c.grow w.heap.size 0 (cap*k)).room σ.next 0 k=cap:=by
   simp only [Ctx.room,h.next,Ctx.grow,bE,k9,jg]
   exact Ch cap (by omega)
  have I:(c.grow w.drew.heap.size 0 (cap*k)).room σ.next 0 k=cap:=vK
  simp only [conc,I]
  simp [h.next,Ctx.grow]
 ·have I:(c.grow w.drew.heap.size 0 (cap*k)).room σ.next 0 k=cap:=by
   simp only [Ctx.room,h.next,Ctx.grow,World.size_drew,bE,k9,jg]
   exact Ch cap (by omega)
  simp only [wf,I]
  exact ⟨by rw [h.next,kn]; omega,hk,Cy⟩
def Ctx.at (c:Ctx)(id off:Nat): Ctx:=⟨fun i=>if i=c.N then ((c.ρ id).1,(c.ρ id).2+off) else c.ρ i,c.Z,c.N+1,fun i=>if i=c.N then false else c.X i⟩
theorem Rel.XW {id off n m:Nat}{cs cs':List V}{C C':Array Value}{e:TypeId}(h:Rel c σ w)(hg:σ.tr.get id=some (.cells n cs false))
 (hb:w.heap[(c.ρ id).1]?=some (.cells C e (0,0)))(hs:C'.size=C.size)(hl:m=cs'.length)(Dv:2≤m)(iS:∀v∈cs',wf c v∧storable v=true)(hle:(c.ρ id).2+off+m≤C.size)
 (hv:∀j v,cs'[j]?=some v→C'[(c.ρ id).2+off+j]?=some (conc c v)):
  Rel (c.at id off) ((σ.put id none).new (.cells m cs' false)) (World.setRow w (c.ρ id).1 C' e (0,0))∧cF c w (c.at id off) (World.setRow w (c.ρ id).1 C' e (0,0)):=by
 have wJ:=h.live id _ hg
 have bC:(c.ρ id).1<w.heap.size:=(Array.getElem?_eq_some_iff.1 hb).1
 have hold:∀i,i<c.N→(c.at id off).ρ i=c.ρ i:=fun i hi=>by simp [Ctx.at,iJ hi]
 have I:(c.at id off).ρ c.N=((c.ρ id).1,(c.ρ id).2+off):=by simp [Ctx.at]
 have Ba:∀i,i<c.N→(c.at id off).X i=c.X i:=fun i hi=>by simp [Ctx.at,iJ hi]
 have ex:Ext c (c.at id off):=⟨by simp [Ctx.at],hold,fun _ _=>rfl,Ba⟩
 have hX:=h.w5 hg (by intro _ _ he; cases he)
 have hN:(c.at id off).N=c.N+1:=rfl
 have key:∀i o,((σ.put id none).new (.cells m cs' false)).tr.get i=some o→(i=c.N∧o=.cells m cs' false)∨(i<c.N∧i≠id∧σ.tr.get i=some o):=by
  intro i o hi
  rw [fA] at hi
  by_cases h1:i=c.N
  ·have:(σ.put id none).next=c.N:=by simp [H.put,h.next]
   rw [this] at hi
   simp [h1] at hi
   exact .inl ⟨h1,hi.symm⟩
  ·have:(σ.put id none).next=c.N:=by simp [H.put,h.next]
   rw [this,ah h1,bV] at hi
   by_cases h2:i=id
   ·simp [h2] at hi
   ·simp [h2] at hi
    exact .inr ⟨h.live i o hi,h2,hi⟩
 refine ⟨⟨by simp [H.new,H.put,h.next,Ctx.at],fun i o hi => ?_,fun i hi => ?_,fun i hi => ?_,fun i j o o' hi hj he => ?_,fun i o hi => ?_,fun i og mN hi hx => ?_,fun i o hi hx => ?_⟩,
  ⟨ex,by simp [World.setRow],fun b _=>nh hb hs b,fun b _ hn => ?_,fun j h1 h2 => ?_,rfl,rfl⟩⟩
 ·rw [hN]
  rcases key i o hi with ⟨h1,_⟩ | ⟨h1,_⟩ <;> omega
 ·rw [hN] at hi
  by_cases h1:i=c.N
  ·subst h1; rw [I]; simpa [World.setRow] using bC
  ·rw [hold i (by omega)]; simpa [World.setRow] using h.kP i (by omega)
 ·rw [hN] at hi
  rw [nh hb hs]
  by_cases h1:i=c.N
  ·subst h1; rw [I]; exact h.zz id wJ
  ·rw [hold i (by omega)]; exact h.zz i (by omega)
 ·rcases key i o hi with ⟨J,_⟩ | ⟨J,a2,a3⟩ <;> rcases key j o' hj with ⟨b1,_⟩ | ⟨b1,b2,b3⟩
  ·exact .inl (by omega)
  ·subst J
   rw [I,hold j b1] at he
   exact absurd (h.vF b3 hg he.symm hX) b2
  ·subst b1
   rw [I,hold i J] at he
   exact absurd (h.vF a3 hg he hX) a2
  ·rw [hold i J,hold j b1] at he
   rw [Ba i J,Ba j b1]; exact h.inj i j _ _ a3 b3 he
 ·rcases key i o hi with ⟨rfl,rfl⟩ | ⟨J,a2,a3⟩
  ·refine ⟨hl,fun v hv=>⟨(b_ ex v (iS v hv).1).2,(iS v hv).2⟩,C',e,(0,0),by rw [I,gK bC]; simp,by rw [I,hs]; exact hle,fun j v hj => ?_,rfl⟩
   rw [I,(b_ ex v (iS v (a_ hj)).1).1]
   exact hv j v hj
  ·have dz:(c.ρ id).1≠(c.ρ i).1:=fun he=>a2 (h.vF a3 hg he.symm hX)
   exact (h.obj i o a3).later ex J (by rw [gK bC]; simp [dz])
 ·rcases key i _ hi with ⟨_,a2⟩ | ⟨J,_,a3⟩
  ·simp at a2; omega
  ·rw [Ba i J] at hx
   rw [hold i J]; exact h.one i og mN a3 hx
 ·rcases key i o hi with ⟨J,_⟩ | ⟨J,_,a3⟩
  ·rw [J] at hx; simp [Ctx.at] at hx
  ·rw [Ba i J] at hx; exact h.fx i o a3 hx
 ·rw [gK bC]
  have:(c.ρ id).1≠b:=fun he=>by have:=hn id wJ he; rw [hX] at this; cases this
  simp [this]
 ·rw [hN] at h2
  have:j=c.N:=by omega
  subst this
  exact .inr ⟨id,wJ,by rw [I],hX⟩
theorem Ee {e:TypeId}{i:TypeInfo}{z:V}(hi:P.info? e=some i)(I:zeroT P e=some z)(c:Ctx): i.zero=some (conc c z):=by
 unfold zeroT at I
 rw [hi] at I
 cases J:i.zero with
 | none=>simp [J] at I
 | some x =>
  simp only [J,ck] at I
  have h0:ofValue x=some z:=by
   split at I
   ·simp at I
   ·exact I
  rw [(rf h0 c).1]
theorem G3 {ts:Array TypeId}{ty:TypeId}{s x v:V}{eL:H}(h:Rel c σ w)(I:appendV P σ ts s x=some (v,eL))(hs:wf c s)(hx:wf c x):
  gE P (Builtin.append_ ts ty #[conc c s,conc c x]) c w v eL:=by
 unfold appendV at I
 split at I
 ·rename_i t u mQ
  have h0:ts[0]?=some t:=by rw [←iG,mQ]; rfl
  have h1:ts[1]?=some u:=by rw [←iG,mQ]; rfl
  generalize ht:P.underlying t=dt at I
  generalize hu:P.underlying u=du at I
  split at I
  ·simp at I
  ·rename_i e d KW
   have hd:∀k,d≠.int k:=fun k e=>KW k e
   split at I
   ·rename_i i z hi hz
    cases hq:(Nat.ble 1 i.size&&Nat.ble i.bytes 4096&&Nat.beq z.cells.length i.size) with
    | false=>simp [hq] at I
    | true =>
     simp only [hq,ag] at I
     simp only [aJ,aF,beq_iff] at hq
     obtain ⟨⟨q1,q2⟩,q3⟩:=hq
     have tJ:=Ee hi hz c
     have NC:∀n,(Builtin.zeroCells (conc c z).cells n).size=n*i.size:=fun n=>by
      rw [CA,fy]; simp [q3]
     split at I
     ·simp at I
     ·rename_i new n CC
      obtain ⟨l1,l2,l3,l4⟩:=H6 (P:=P) h CC hx
      obtain ⟨_,Th,_,_⟩:=H6 (P:=P) h.drew CC hx
      cases hn:Nat.beq n 0 with
      | true =>
       have HZ:=beq_iff.1 hn
       subst HZ
       have sG:new=[]:=List.length_eq_zero_iff.1 (by simpa using l3)
       subst sG
       simp only [hn,ag] at I
       split at I
       ·simp only [ak,aC] at I
        obtain ⟨rfl,rfl⟩:=I
        refine gE.same h ⟨?_,hs⟩
        have:=append_room (P:=P) (w:=w) (ty:=ty) h0 h1 ht hu hd hi none 0 0 0 (conc c x) _ l1 l2 (aD _)
        simpa [conc] using this
       ·rename_i id off len cap
        simp only [ak,aC] at I
        obtain ⟨rfl,rfl⟩:=I
        refine gE.same h ⟨?_,hs⟩
        have hle:∃a m,conc c (.sl id off len cap)=.slice (some a) len m∧len≤m:=by
         cases cap with
         | exact m =>
          have js:id<c.N∧len≤m:=by simpa [wf] using hs
          exact ⟨_,m,by simp only [conc]; rfl,js.2⟩
         | rest gW alt =>
          have js:id<c.N∧1≤gW∧len≤c.room id off gW:=by simpa [wf] using hs
          exact ⟨_,_,by simp only [conc]; rfl,js.2.2⟩
        obtain ⟨a,m,e1,e2⟩:=hle
        rw [e1]
        have:=append_room (P:=P) (w:=w) (ty:=ty) h0 h1 ht hu hd hi (some a) len m 0 (conc c x) _ l1 l2 e2
        rw [this]
        simp [storeCells]
       ·simp at I
      | false =>
       have HZ:n≠0:=fun e=>by rw [iA e] at hn; cases hn
       simp only [hn,ay] at I
       split at I
       ·-- onto nil
        cases hq:kf n i.bytes with
        | false=>simp [hq] at I
        | true =>
         simp only [hq,ag,ak] at I
         obtain ⟨cap,Bb,tM⟩:=uq (P:=P) (w:=w) (ty:=ty) h0 h1 ht hu hd hi tJ none 0 0 n (conc c x) #[] _ l1 Th (by simp [Builtin.firstCells]) (by omega) (by rw [dY]; exact hq)
         obtain ⟨c',g1,g2,g3,g4⟩:=xk (e:=e) (zs:=Builtin.zeroCells (conc c z).cells (cap-(0+n))) (old:=[]) (new:=new) (need:=n) (cap:=cap) h q1 (by simp) l4 (by simpa using l3) (by omega) (by rw [NC]; congr 2; omega)
         have hv:v=.sl σ.next 0 n (.rest i.size 0):=by rw [← (rV I).1]
         have Ti:eL=(nc σ i.size [] new n).2:=by rw [← (rV I).2]; rfl
         subst hv; subst Ti
         refine ⟨_,c',?_,g2,g3,g4⟩
         rw [g1]
         simp only [conc]
         rw [tM]
         simp
       ·-- a slice whose capacity is known
        rename_i id off len cc
        have js:id<c.N∧len≤cc:=by simpa [wf] using hs
        cases hq:Nat.ble (len+n) cc with
        | true =>
         have hle:=aF.1 hq
         simp only [hq,ag] at I
         cases hw:wrN σ id (off+len*i.size) new with
         | none=>simp [hw] at I
         | some Zh =>
          simp only [hw,ak,aC] at I
          obtain ⟨rfl,rfl⟩:=I
          obtain ⟨w',s1,s2,s3⟩:=w9 (P:=P) h hw l4
          refine ⟨w',c,?_,by simpa [wf] using ⟨js.1,hle⟩,s2,s3⟩
          have:=append_room (P:=P) (w:=w) (ty:=ty) h0 h1 ht hu hd hi (some (eX c id off)) len cc n (conc c x) _ l1 l2 hle
          have e1:conc c (.sl id off len (.exact cc))=.slice (some (eX c id off)) len cc:=by simp only [conc,eX]
          rw [e1,this]
          simp only [r6,s1,Result.andThen_ok]
          simp only [conc,eX]
        | false =>
         have bC:cc<len+n:=by
          rcases j8 cc (len+n) with h' | h'
          ·exact h'
          ·rw [aF.2 h'] at hq; cases hq
         simp only [hq,ay] at I
         cases iz:kf (len+n) i.bytes with
         | false=>simp [iz] at I
         | true =>
          simp only [iz,ag] at I
          cases iT:rdN σ id off (len*i.size) with
          | none=>simp [iT] at I
          | some old =>
           simp only [iT,ak] at I
           obtain ⟨r1,r2,_⟩:=sB h iT
           have r4:=Cw (P:=P) h.drew iT
           obtain ⟨cap,Bb,tM⟩:=uq (P:=P) (w:=w) (ty:=ty) h0 h1 ht hu hd hi tJ (some (eX c id off)) len cc n (conc c x) _ _ l1 Th (by simp only [Builtin.firstCells]; exact r4) bC iz
           obtain ⟨c',g1,g2,g3,g4⟩:=xk (e:=e) (zs:=Builtin.zeroCells (conc c z).cells (cap-(len+n))) (old:=old) (new:=new) (need:=len+n) (cap:=cap) h q1 r2 l4 (by rw [r1,l3,iK]) Bb (NC _)
           have hv:v=.sl σ.next 0 (len+n) (.rest i.size 0):=by rw [← (rV I).1]
           have Ti:eL=(nc σ i.size old new (len+n)).2:=by rw [← (rV I).2]; rfl
           subst hv; subst Ti
           refine ⟨_,c',?_,g2,g3,g4⟩
           have e1:conc c (.sl id off len (.exact cc))=.slice (some (eX c id off)) len cc:=by simp only [conc,eX]
           rw [g1,e1,tM]
       ·-- a slice whose capacity is not known
        rename_i id off len gW alt
        have js:id<c.N∧1≤gW∧len≤c.room id off gW:=by simpa [wf] using hs
        cases tK:Nat.beq gW i.size with
        | false=>simp [tK] at I
        | true =>
         have he:=beq_iff.1 tK
         subst he
         simp only [tK,ag] at I
         have ET:=Ds (id:=id) (off:=off) (k:=i.size) h
         cases hq:Nat.ble (len+n) (jP σ id off i.size) with
         | true =>
          have hle:=aF.1 hq
          simp only [hq,ag] at I
          have J:c.room id off i.size≠0:=by omega
          cases hw:wrN σ id (off+len*i.size) new with
          | none=>simp [hw] at I
          | some Zh =>
           simp only [hw,ak,aC] at I
           obtain ⟨rfl,rfl⟩:=I
           obtain ⟨w',s1,s2,s3⟩:=w9 (P:=P) h hw l4
           refine ⟨w',c,?_,by simp only [wf]; exact ⟨js.1,js.2.1,by omega⟩,s2,s3⟩
           have:=append_room (P:=P) (w:=w) (ty:=ty) h0 h1 ht hu hd hi (some (eX c id off)) len (c.room id off i.size) n (conc c x) _ l1 l2 (by omega)
           have e1:conc c (.sl id off len (.rest i.size alt))=.slice (some (eX c id off)) len (c.room id off i.size):=by simp only [conc,eX,J,bG]
           rw [e1,this]
           simp only [r6,s1,Result.andThen_ok]
           simp only [conc,eX,J,bG]
         | false =>
          simp only [hq,ay] at I
          cases iz:(kf (len+n) i.bytes&&Nat.ble 2 ((len+n)*i.size)) with
          | false=>simp [iz] at I
          | true =>
           have hb:=(aJ _ _ ▸ iz).1
           have Dv:=aF.1 (aJ _ _ ▸ iz).2
           simp only [iz,ag] at I
           split at I
           ·rename_i old aaR aaJ iT hg
            simp only [ak] at I
            obtain ⟨r1,r2,r3⟩:=sB h iT
            have hv:v=.sl σ.next 0 (len+n) (.rest i.size 0):=by rw [← (rV I).1]; rfl
            have Ti:eL=(nc (σ.put id none) i.size old new (len+n)).2:=by rw [← (rV I).2]; rfl
            subst hv; subst Ti
            by_cases J:len+n≤c.room id off i.size
            ·-- there is room behind it
             obtain ⟨_,aaK,C,el,fz,PX,aak,aaL,u7⟩:=h.obj id _ hg
             simp only [FzOk] at u7
             subst u7
             have Ak:c.room id off i.size≠0:=by omega
             have hZ:=h.zz id js.1
             have Zi:rowSize w (c.ρ id).1=C.size:=by unfold rowSize; rw [PX]
             have fS:(c.ρ id).2+off+(len+n)*i.size≤C.size:=by
              unfold Ctx.room at J
              rw [hZ,Zi] at J
              have h1:(len+n)*i.size≤(C.size-((c.ρ id).2+off))/i.size*i.size:=rH _ J
              have h2:=Nat.div_mul_le_self (C.size-((c.ρ id).2+off)) i.size
              have h3:0<(len+n)*i.size:=Nat.mul_pos (by omega) (by omega)
              omega
             obtain ⟨C',s1,s2,s3⟩:=u6 (P:=P) (new.map (conc c)) 0 w (c.ρ id).1 ((c.ρ id).2+(off+len*i.size)) C el (0,0) PX (by intro j _; simp)
              (by simp only [dF,l3]; rw [iK] at fS; omega) (by simp only [m_]; rintro _ ⟨y,hy,rfl⟩; exact Af (l4 y hy).2)
             have hlen:(old++new).length=(len+n)*i.size:=by simp [r1,l3,iK]
             have ha:=h.XW (off:=off) (m:=(len+n)*i.size) (cs':=old++new) (C':=C') hg PX s2 hlen.symm Dv (by
               intro y hy
               rcases List.mem_append.1 hy with hy | hy
               ·exact r2 y hy
               ·exact l4 y hy) fS (by
               intro j y hj
               rw [s3]
               by_cases hj1:j<len*i.size
               ·rw [iF (by omega)] at hj
                rw [ah (by omega)]
                have:=r3 j (conc c y) (by simp [hj])
                rw [r6] at this
                simpa [World.cell?,eX,PX,jf] using this
               ·rw [me (by omega),r1] at hj
                have S6:j-len*i.size<new.length:=(List.getElem?_eq_some_iff.1 hj).1
                rw [aq (by simp only [dF]; omega)]
                rw [m8,show (c.ρ id).2+off+j-((c.ρ id).2+(off+len*i.size)+0)=j-len*i.size from by omega,hj]
                rfl)
             have WH:(c.at id off).room σ.next 0 i.size=c.room id off i.size:=by
              simp [Ctx.room,Ctx.at,h.next]
             refine ⟨_,_,?_,?_,ha.1,ha.2⟩
             ·have:=append_room (P:=P) (w:=w) (ty:=ty) h0 h1 ht hu hd hi (some (eX c id off)) len (c.room id off i.size) n (conc c x) _ l1 l2 J
              have e1:conc c (.sl id off len (.rest i.size alt))=.slice (some (eX c id off)) len (c.room id off i.size):=by simp only [conc,eX,Ak,bG]
              rw [e1,this]
              simp only [r6]
              simp only [eX,s1,Result.andThen_ok]
              simp only [conc,WH,Ak,bG]
              simp [Ctx.at,h.next]
             ·simp only [wf,WH]
              exact ⟨by simp [Ctx.at,h.next],q1,J⟩
            ·-- a new block
             have bC:c.room id off i.size<len+n:=by omega
             have ku:=y6 (P:=P) h.drew hs iT (fun e=>by rw [e]; simp)
             obtain ⟨a,m,e1,e2,_,_⟩:=ku
             have hm:m=c.room id off i.size:=by
              simp only [conc,Value.slice.injEq] at e1
              exact e1.2.2.symm
             subst hm
             obtain ⟨cap,Bb,tM⟩:=uq (P:=P) (w:=w) (ty:=ty) h0 h1 ht hu hd hi tJ (some a) len (c.room id off i.size) n (conc c x) _ _ l1 Th (by simp only [Builtin.firstCells]; exact e2) bC hb
             obtain ⟨c',g1,g2,g3,g4⟩:=xk (e:=e) (zs:=Builtin.zeroCells (conc c z).cells (cap-(len+n))) (old:=old) (new:=new) (need:=len+n) (cap:=cap) (h.kill id) q1 r2 l4 (by rw [r1,l3,iK]) Bb (NC _)
             refine ⟨_,c',?_,g2,g3,g4⟩
             rw [e1,tM]
             exact fQ (fun q=>Result.ok q _) g1.symm
           ·simp at I
       ·simp at I
   ·simp at I
  ·simp at I
 ·simp at I
theorem KX {ts:Array TypeId}{t ty:TypeId}{d s v:V}{eL:H}(h:Rel c σ w)(mQ:ts[0]?=some t)(I:copyV P σ t d s=some (v,eL))(hd:wf c d)(hs:wf c s):
  gE P (Builtin.copy_ ts ty #[conc c d,conc c s]) c w v eL:=by
 unfold copyV at I
 generalize ht:P.underlying t=dt at I
 split at I
 ·rename_i e
  cases hk:bq P e with
  | none=>simp [hk] at I
  | some k =>
   simp only [hk] at I
   split at I
   ·simp only [ak,aC] at I
    obtain ⟨rfl,rfl⟩:=I
    refine gE.same h ⟨?_,by simp [wf]⟩
    simp [Builtin.copy_,mQ,run_underlying ht,conc,Builtin.lenOf,cC hk,Builtin.firstCells,goInt]
   ·rename_i id off len cap
    simp only [ak,aC] at I
    obtain ⟨rfl,rfl⟩:=I
    obtain ⟨a,m,e1⟩:=pQ c id off len cap
    refine gE.same h ⟨?_,by simp [wf]⟩
    rw [e1]
    simp [Builtin.copy_,mQ,run_underlying ht,conc,Builtin.lenOf,cC hk,Builtin.firstCells,goInt,loadCells,loadCellsFrom]
   ·rename_i id off len cap
    simp only [ak,aC] at I
    obtain ⟨rfl,rfl⟩:=I
    obtain ⟨a,m,e1⟩:=pQ c id off len cap
    refine gE.same h ⟨?_,by simp [wf]⟩
    rw [e1]
    simp [Builtin.copy_,mQ,run_underlying ht,conc,Builtin.lenOf,cC hk,Builtin.firstCells,goInt,storeCells]
   ·rename_i id off len cap a0
    simp only [ak,aC] at I
    obtain ⟨rfl,rfl⟩:=I
    obtain ⟨a,m,e1⟩:=pQ c id off len cap
    refine gE.same h ⟨?_,by simp [wf]⟩
    rw [e1]
    simp [Builtin.copy_,mQ,run_underlying ht,conc,Builtin.lenOf,cC hk,Builtin.firstCells,goInt,loadCells,loadCellsFrom,storeCells]
   ·rename_i id off len cap xm off' XX xn
    cases iT:rdN σ xm off' (Nat.min XX len*k) with
    | none=>simp [iT] at I
    | some cs =>
     simp only [iT] at I
     cases hw:wrN σ id off cs with
     | none=>simp [hw] at I
     | some Zh =>
      simp only [hw,ak,aC] at I
      obtain ⟨rfl,rfl⟩:=I
      obtain ⟨r1,r2,_⟩:=sB h iT
      obtain ⟨a,m,e1,e2,_,_⟩:=y6 (P:=P) h hs iT (fun e=>by rw [e]; simp)
      obtain ⟨w',s1,s2,s3⟩:=w9 (P:=P) h hw r2
      refine ⟨w',c,?_,by simp [wf],s2,s3⟩
      have ND:∃b n,conc c (.sl id off len cap)=.slice (some b) len n∧(storeCells b (cs.map (conc c))).run P w=.ok () w':=by
       cases cap with
       | exact n=>exact ⟨_,n,by simp only [conc]; rfl,s1⟩
       | rest J alt =>
        by_cases h3:c.room id off J=0
        ·have hlen:len=0:=by
          have:id<c.N∧1≤J∧len≤c.room id off J:=by simpa [wf] using hd
          omega
         subst hlen
         have lI:cs=[]:=List.length_eq_zero_iff.1 (by simpa using r1)
         subst lI
         refine ⟨⟨(c.ρ id).1,(c.ρ id).2+(if c.room id off J=0 then alt else off),none⟩,c.room id off J,by simp only [conc],?_⟩
         simpa [storeCells] using s1
        ·exact ⟨eX c id off,c.room id off J,by simp only [conc,h3,bG,eX],s1⟩
      obtain ⟨b,n,e3,e4⟩:=ND
      rw [e1,e3]
      simp only [Builtin.copy_,mQ,m6,nY,kW,Sem.run_bind,run_underlying ht,Result.andThen_ok,Builtin.lenOf,Sem.run_pure,cC hk,
       Builtin.firstCells,e2,e4]
      simp [conc,goInt]
   ·simp at I
 ·simp at I
theorem Jg {ts:Array TypeId}{t ty:TypeId}{x:V}{eL:H}(h:Rel c σ w)(J:ts[0]?=some t)(I:clearV P σ t x=some eL)(hx:wf c x):
  ∃w' c',(Builtin.clear_ ts ty #[conc c x]).run P w=.ok (.tuple #[]) w'∧Rel c' eL w'∧cF c w c' w':=by
 unfold clearV at I
 generalize ht:P.underlying t=dt at I
 split at I
 ·simp only [ak] at I
  subst I
  exact ⟨w,c,by simp [Builtin.clear_,J,run_underlying ht,conc],h,cF.refl c w⟩
 ·rename_i id
  split at I
  ·rename_i es clock hg
   obtain ⟨hw,hb⟩:=h.obj id _ hg
   have nD:=jz (P:=P) hb (by simp)
   simp only [ak] at I
   subst I
   have hm:=h.sC (es':=[]) (k':=clock) hg (by simp)
   refine ⟨_,_,?_,hm.1,hm.2⟩
   simp only [Builtin.clear_,J,m6,nY,Sem.run_bind,run_underlying ht,Result.andThen_ok,conc,nD]
   rw [ko hb (by simp)]
   simp
  ·simp at I
 ·simp only [ak] at I
  subst I
  exact ⟨w,c,by simp [Builtin.clear_,J,run_underlying ht,conc],h,cF.refl c w⟩
 ·rename_i e id off len cap
  cases hz:zeroT P e with
  | none=>simp [hz] at I
  | some z =>
   simp only [hz] at I
   cases hq:(Nat.ble 1 z.cells.length&&Nat.ble 1 len) with
   | false=>simp [hq] at I
   | true =>
    simp only [hq,ag] at I
    simp only [aJ,aF] at hq
    obtain ⟨z1,z2⟩:=fM hz c w
    obtain ⟨w',s1,s2,s3⟩:=w9 (P:=P) h I (fun v hv=>⟨jm z2 v (jF hv),lq hz v (jF hv)⟩)
    have Aj:=mP c z.cells len hq.1
    have key:∃m,conc c (.sl id off len cap)=.slice (some (eX c id off)) len m:=by
     cases cap with
     | exact m=>exact ⟨m,by simp only [conc,eX]⟩
     | rest gW alt =>
      have js:id<c.N∧1≤gW∧len≤c.room id off gW:=by simpa [wf] using hx
      have h3:c.room id off gW≠0:=by omega
      exact ⟨c.room id off gW,by simp only [conc,eX,h3,bG]⟩
    obtain ⟨m,e1⟩:=key
    refine ⟨w',c,?_,s2,s3⟩
    rw [e1]
    obtain ⟨l,rfl⟩:∃l,len=l+1:=⟨len-1,by omega⟩
    have EW:Builtin.zeroCells (conc c z).cells (l+1)=((repeatL z.cells (l+1)).map (conc c)).toArray:=by
     rw [fy,←Aj]
     simp [Builtin.zeroCells]
    simp only [Builtin.clear_,J,m6,nY,Sem.run_bind,run_underlying ht,Result.andThen_ok,z1,EW,s1]
    simp
 ·simp at I
end
end Go.Proofs.YtefepnnfphdkpaaGreat.Am
